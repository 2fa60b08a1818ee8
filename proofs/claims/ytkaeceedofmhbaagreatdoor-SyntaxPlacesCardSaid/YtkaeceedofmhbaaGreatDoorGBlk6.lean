/-
  An item whose params grow (group), and a row of one expression laid anew.
  syntax: group.
  Printed by gen/blk5.py.
-/
import Derived.Test.YtkaeceedofmhbaaGreatDoorGBlk2
import Derived.Test.YtkaeceedofmhbaaGreatDoorGBlk4
import Derived.Deep.RegionLaw
import Derived.Deep.DeepCutAuto
namespace Go.Proofs.YtkaeceedofmhbaaGreatDoor
open Go.RowKit Bk

/-- As ItP, but the row that grows is that of the params; there are no expressions. -/
structure GrP (X : Nat → Prop) (H : Frozen) (w : World) (r : Nat) (sv : Value) (src : Bytes) (st : St) (b : Nat) (x : ItemV) (s : ItemS) (pc : List Value) : Prop where
  rd : RdOK (Loc X b s.pv) H w r sv src st
  txt : Txt X w sv src
  gx : ∀ k, k < low → X k
  xlt : ∀ k, X k → k < w.heap.size
  xb : ¬ X b
  xp : ∀ k, s.pv.ownBlock = some k → ¬ X k
  pb : s.pv.ownBlock ≠ some b
  blk : w.heap[b]? = some (.cells (itemCells x s).toArray 40 (0, 0))
  prow : w.ownsRow 0 24 3 s.pv x.params.length pc
  prel : RowsR (RefR H) x.params pc
  pnil : x.params = [] → s.pv = .slice none 0 0
  ev : s.ev = .slice none 0 0
  e0 : x.e = []
  ip : ItemP H x s
  fl : 0 ≤ x.flags ∧ x.flags < 9223372036854775808

section
variable {X : Nat → Prop} {H H1 : Frozen} {w w1 : World} {r : Nat} {sv : Value} {src : Bytes} {st st1 : St} {b : Nat} {x x' : ItemV} {s s' : ItemS} {v' : Value} {pc : List Value}

theorem GrP.lt (h : GrP X H w r sv src st b x s pc) : b < w.heap.size := lt_of_block h.blk
theorem GrP.start (h : ItP X H w r sv src st b x s) (he : x.e = []) (hp : x.params = []) : GrP X H w r sv src st b x s [] := by
  have hev := h.enil he
  have hpv : s.pv = .slice none 0 0 := by
    obtain ⟨cs, h1, h2⟩ := h.ps
    rcases h2 with ⟨e, _⟩ | ⟨g, cap, _, h0, _⟩
    · exact e
    · rw [hp] at h0; simp at h0
  refine ⟨?_, h.txt, h.gx, h.xlt, h.xb, fun k hk => by rw [hpv] at hk; simp [Value.ownBlock] at hk, by rw [hpv]; simp [Value.ownBlock], h.blk, ⟨by rw [hp]; rfl, .inl ⟨hpv, by rw [hp]; rfl⟩⟩, by rw [hp]; rfl, fun _ => hpv, hev, he, h.ip, h.fl⟩
  rw [hpv, ← hev]; exact h.rd
theorem GrP.call (h : GrP X H w r sv src st b x s pc) (hR : RdOK (Loc X b s.pv) H1 w1 r sv src st1) (le : Le H H1) (fr : Fr (Loc X b s.pv) w w1) : GrP X H1 w1 r sv src st1 b x s pc :=
  ⟨hR, h.txt.keep fr.unloc.block, h.gx, fun k hk => Nat.lt_of_lt_of_le (h.xlt k hk) fr.size, h.xb, h.xp, h.pb, by rw [fr.block b (.inr (.inl rfl))]; exact h.blk, ownsRow_block h.prow fun k hk => fr.block k (.inr (.inr hk)), h.prel.imp fun _ _ => RefR.mono le, h.pnil, h.ev, h.e0, h.ip.mono le, h.fl⟩
theorem GrP.drew (h : GrP X H w r sv src st b x s pc) : GrP X H w.drew r sv src st b x s pc := h.call h.rd.drew (Le.refl H) (Fr.drewOn _ _)
theorem GrP.alloc (h : GrP X H w r sv src st b x s pc) (o : Obj) : GrP X H (w.alloc o) r sv src st b x s pc := h.call (h.rd.alloc o) (Le.refl H) ((Fr.refl _ _).alloc h.rd.xlt o)
theorem GrP.p_slice (h : GrP X H w r sv src st b x s pc) : ∃ a c, s.pv = .slice a x.params.length c := by
  rcases h.prow.2 with ⟨e, h0⟩ | ⟨g, cap, cur, e, _⟩
  · exact ⟨none, 0, by rw [e, h0]⟩
  · exact ⟨_, _, e⟩

/-- One param more. -/
theorem GrP.grow {f : RefV} {c : List Value} (h : GrP X H w r sv src st b x s pc) (hf : RefR H f c) (hg : w.grownBy w1 s.pv.ownBlock) (ho : w1.ownsRow 0 24 3 v' (x.params.length + 1) (pc ++ c)) (hat : v'.ownBlock = s.pv.ownBlock ∨ ∃ K, w.heap.size ≤ K ∧ v'.ownBlock = some K) :
    GrP X H (w1.setCell ⟨b, 14, none⟩ v') r sv src st b { x with params := x.params ++ [f] } { s with pv := v' } (pc ++ c) ∧ Fr X w (w1.setCell ⟨b, 14, none⟩ v') := by
  have hlt := h.lt
  have hs : w.heap.size ≤ (w1.setCell ⟨b, 14, none⟩ v').heap.size := by have := hg.size; simpa [World.setCell] using this
  have hb : ∀ k, k < w.heap.size → k ≠ b → s.pv.ownBlock ≠ some k → (w1.setCell ⟨b, 14, none⟩ v').heap[k]? = w.heap[k]? := fun k hk h1 h2 => (Below.heap_setCell _ _ _ _ h1).trans (hg.block k hk (fun e => h2 e.symm))
  have fr : Fr X w (w1.setCell ⟨b, 14, none⟩ v') := ⟨hg.os, hg.tape, hg.output, hs, fun k hk => hb k (h.xlt k hk) (fun e => h.xb (e ▸ hk)) (fun e => h.xp k e hk)⟩
  have hw1 : w1.heap[b]? = w.heap[b]? := hg.block b hlt (fun e => h.pb e.symm)
  have xp' : ∀ k, v'.ownBlock = some k → ¬ X k := fun k hk => by
    rcases hat with e | ⟨K, hK, e⟩
    · exact h.xp k (by rw [← e]; exact hk)
    · rw [e] at hk; obtain rfl : K = k := by simpa using hk
      exact fun hx => by have := h.xlt _ hx; omega
  have pb' : v'.ownBlock ≠ some b := fun e' => by
    rcases hat with e | ⟨K, hK, e⟩
    · exact h.pb (by rw [← e]; exact e')
    · rw [e] at e'; obtain rfl : K = b := by simpa using e'
      omega
  refine ⟨⟨?_, h.txt.keep fr.block, h.gx, fun k hk => Nat.lt_of_lt_of_le (h.xlt k hk) hs, h.xb, xp', pb', ?_, ?_, h.prel.snoc hf, fun e => absurd e (by simp), h.ev, h.e0, ⟨h.ip.nv, h.ip.fv, h.ip.tv, h.ip.ov, h.ip.kv, h.ip.lv⟩, h.fl⟩, fr⟩
  · refine h.rd.local h.txt h.gx (fun _ hk => .inl hk) (fun k hk hx => hb k hk ?_ ?_) (fun _ hk => .inl hk) (fun k hk => ?_) (fun k hk => ?_)
    · rintro rfl
      rcases hx with hx | hx
      · exact h.xb hx
      · exact hx (.inr (.inl rfl))
    · intro e
      rcases hx with hx | hx
      · exact h.xp k e hx
      · exact hx (.inr (.inr e))
    · rcases hk with h1 | h1 | h1
      · exact .inl (.inl h1)
      · exact .inl (.inr (.inl h1))
      · rcases hat with e | ⟨K, hK, e⟩
        · exact .inl (.inr (.inr (by rw [← e]; exact h1)))
        · rw [show ({ s with pv := v' } : ItemS).pv = v' from rfl, e] at h1
          obtain rfl : K = k := by simpa using h1
          exact .inr hK
    · rcases hk with h1 | h1 | h1
      · exact Nat.lt_of_lt_of_le (h.xlt k h1) hs
      · subst h1; omega
      · have := (ho.lt k h1).2; simpa [World.setCell] using this
  · have := blk_set (w := w1) (by rw [hw1]; exact h.blk) 14 v'
    simpa [itemCells] using this
  · simpa using ownsRow_setCell_other ho (a := ⟨b, 14, none⟩) pb' v'

/-- The params, done with. -/
theorem GrP.done (h : GrP X H w r sv src st b x s pc) : ∃ H1, Le H H1 ∧ ItP X H1 w r sv src st b x s := by
  have hloc : ∀ k, Loc X b s.ev k → Loc X b s.pv k := fun k hk => by
    rcases hk with h1 | h1 | h1
    · exact .inl h1
    · exact .inr (.inl h1)
    · rw [h.ev] at h1; simp [Value.ownBlock] at h1
  have xe : ∀ k, s.ev.ownBlock = some k → ¬ X k := fun k hk => by rw [h.ev] at hk; simp [Value.ownBlock] at hk
  have eb : s.ev.ownBlock ≠ some b := by rw [h.ev]; simp [Value.ownBlock]
  have erow : w.ownsRow 0 3 1 s.ev x.e.length (ints x.e) := ⟨by rw [h.e0]; rfl, .inl ⟨h.ev, by rw [h.e0]; rfl⟩⟩
  have txt' : Txt (Loc X b s.ev) w sv src := h.txt.mono fun _ hk => .inl hk
  have gx' : ∀ k, k < low → Loc X b s.ev k := fun k hk => .inl (h.gx k hk)
  by_cases he : x.params = []
  · refine ⟨H, Le.refl H, ⟨h.rd.back txt' gx' hloc, h.txt, h.gx, h.xlt, h.xb, xe, eb, h.blk, erow, fun _ => h.ev, h.ip, ⟨[], by rw [he]; rfl, .inl ⟨h.pnil he, by rw [he]; rfl, rfl⟩⟩, h.fl⟩⟩
  · have hpos : 0 < x.params.length := List.length_pos_iff.2 he
    obtain ⟨hlen, h2⟩ := h.prow
    rcases h2 with ⟨_, h0⟩ | ⟨g, cap, cur, e, _, hg, h1, h2, h3, h4⟩
    · omega
    · have hng : ¬ Loc X b s.ev g := fun hk => by
        rcases hk with h1 | h1 | h1
        · exact h.xp g (by rw [e]; rfl) h1
        · exact h.pb (by rw [e, ← h1]; rfl)
        · rw [h.ev] at h1; simp [Value.ownBlock] at h1
      have hz := h.rd.freeze txt' gx' hloc (g := g) (.inr (.inr (by rw [e]; rfl))) hng hg (cs := pc) (by rw [hlen]; exact h4)
      exact ⟨_, hz.2, hz.1, h.txt, h.gx, h.xlt, h.xb, xe, eb, h.blk, erow, fun _ => h.ev, h.ip.mono hz.2, ⟨pc, h.prel.imp fun _ _ => RefR.mono hz.2, .inr ⟨g, cap, e, hpos, h1, h2, Frozen.put_self _ _ _ _⟩⟩, h.fl⟩

/-- The first expression, laid as a row of its own. -/
theorem ItP.put_e {a : Int} (h : ItP X H w r sv src st b x s) (he : x.e = []) : ItP X H ((w.alloc (.cells #[.int .i64 a] 3)).setCell ⟨b, 15, none⟩ (.slice (some ⟨w.heap.size, 0, none⟩) 1 1)) r sv src st b { x with e := x.e ++ [a] } { s with ev := .slice (some ⟨w.heap.size, 0, none⟩) 1 1 } ∧
    Fr X w ((w.alloc (.cells #[.int .i64 a] 3)).setCell ⟨b, 15, none⟩ (.slice (some ⟨w.heap.size, 0, none⟩) 1 1)) := by
  refine h.grow (w1 := w.alloc (.cells #[.int .i64 a] 3)) (k := a) (v' := .slice (some ⟨w.heap.size, 0, none⟩) 1 1) ⟨rfl, rfl, rfl, by simp, fun k hk _ => Below.heap_alloc _ _ _ hk⟩ ?_ (.inr ⟨_, Nat.le_refl _, rfl⟩)
  rw [he]
  exact ⟨rfl, .inr ⟨w.heap.size, 1, #[.int .i64 a], rfl, Nat.zero_le _, heap_alloc_new w _, Nat.le_refl _, by unfold maxLen; omega, rfl, rfl⟩⟩
end
end Go.Proofs.YtkaeceedofmhbaaGreatDoor
namespace Go.Proofs.YtkaeceedofmhbaaGreatDoor
open Go.RowKit Bk
attribute [local go_sem ↓] Go.wp_at_zero Go.wp_at_succ

set_option linter.unusedSimpArgs false
section
variable {X : Nat → Prop} {H : Frozen} {w : World} {r : Nat} {sv : Value} {src : Bytes} {st : St} 

theorem infoRef : (Tryz.prog.info? 24).map (fun i => (i.zero, i.size, i.bytes)) = some (some (.agg #[.string ⟨#[]⟩, .int .i64 0, .slice none 0 0]), 3, 48) := by kernel_rfl
/-- Behind the question. -/
def groupIn (src : Bytes) (m : Nat) (x : ItemV) : M ItemV := M.bind (word src) fun f => if x.params.length < most then M.bind (take src 11) fun c => if c = true then groupOn src m { x with params := x.params ++ [f] } else pure { x with params := x.params ++ [f] } else fuelOut
theorem groupOn_zero (x : ItemV) (st : St) : groupOn src 0 x st = .bad .fuel := by rw [groupOn]; rfl
theorem groupOn_on (m : Nat) (x : ItemV) : groupOn src (m + 1) x = M.bind (see 9) fun b => if b = false ∨ 0 < x.params.length then groupIn src m x else pure x := by rw [groupOn]; rfl
theorem group_go {m : Nat} {x : ItemV} {q : Bool} {F : ItemV → M Int} (h : q = false ∨ 0 < x.params.length) : M.bind (if q = false ∨ 0 < x.params.length then groupIn src m x else pure x) F st = M.bind (groupIn src m x) F st := by rw [if_pos h]
theorem group_end {m : Nat} {x : ItemV} {F : ItemV → M Int} (h : ¬ 0 < x.params.length) : M.bind (if true = false ∨ 0 < x.params.length then groupIn src m x else pure x) F st = F x st := by rw [if_neg (fun hh => hh.elim (fun e => by cases e) h)]; rfl

set_option maxRecDepth 100000 in
set_option maxHeartbeats 4000000 in
theorem group_c (n : Nat) (hb : BlockC n .item) (h : RdOK X H w r sv src st) (hf : group src (n + 1) st ≠ .bad .fuel) :
    Calls Tryz.prog 50 #[.pointer (some ⟨r, 0, none⟩)] w (Post X w (group src (n + 1) st) (Good rI X H r sv src)) := by
  obtain ⟨T, hT⟩ : ∃ T, T = group src (n + 1) st := ⟨_, rfl⟩
  rw [← hT]
  have FU := Lib.hid (show T ≠ .bad .fuel by rw [hT]; exact hf)
  have NX := Lib.hid next_c
  have FL := Lib.hid fail_c
  rw [group] at hT
  have EQ0 := Lib.hid hT
  have RD0 := Lib.hid h
  have HB := Lib.hid hb
  clear h hf hT hb
  have hmf : ∀ (fn : Fn) (first cap : Array Value) (w : World), (Instr.makeFunc fn first cap).run Tryz.prog w = .ok (.func fn first cap) w := fun _ _ _ _ => rfl
  go_enter Tryz.func50, Tryz.ntmps50
  go_wp2_with fail
  refine (begin_c 5 RD0.out (fun e => FU.out (EQ0.out.trans (bind_bad e)))).mono ?_
  intro e w1 hp
  rcases hp.elimG with ⟨k, st1, v1, H1, hr, rfl, le, hR, hv, hfr⟩ | ⟨p, why, hr, rfl, hfr⟩
  rotate_left
  · have EQp := Lib.hid (EQ0.out.trans (bind_bad hr))
    have FRp := Lib.hid hfr
    clear hfr hr hp
    go_wp2_with fail
    exact ⟨rfl, Post.stop EQp.out FRp.out⟩
  obtain rfl : v1 = .int .i64 (k : Int) := hv
  obtain ⟨hk, hit⟩ := begin_row hr
  have hkx : st1.items[k]? = some { kind := 5, pos := st.at_ } := by rw [hit, hk]; simp
  obtain ⟨g, cap, cs, c17, hx, hcl, hc⟩ := hR.item_at hkx
  obtain ⟨N, hN⟩ : ∃ N, N = st1.items.length := ⟨_, rfl⟩
  rw [← hN] at c17
  have hkN : k < N := by rw [hN, hit, hk]; simp
  have HK2 := Lib.hid (show k < st1.items.length by rw [← hN]; exact hkN)
  have EQ1 := Lib.hid (EQ0.out.trans (bind_ok hr))
  have RD1 := Lib.hid hR
  have FR1 := Lib.hid hfr
  have LE2 := Lib.hid le
  have HX := Lib.hid hx
  have HCL := Lib.hid hcl
  have HC := Lib.hid hc
  have HKX := Lib.hid hkx
  clear hr hp hR hfr le hN hx hcl hc hkx hk hit
  go_upto_region 2 with (fail)
  refine wp_region_lit ?_
  iterate 7
    refine wpList_step (fun K hK => ?_)
    go_simp
    refine hK _ _ ?_
    clear hK K
  refine wpList_step (fun K hK => ?_)
  refine step_load_cells (by rfl) _ _ (by rfl) g (k * 21) (by rfl) cs item_agg (by rw [HCL.out]; exact itemSize) HC.out ?_
  refine hK _ _ ?_
  clear hK K
  iterate 1
    refine wpList_step (fun K hK => ?_)
    go_simp
    refine hK _ _ ?_
    clear hK K
  refine wpList_step (fun K hK => ?_)
  refine step_store_cells (by rfl) _ _ _ (by rfl) w1.heap.size 0 (by rfl) cs (by rfl) (by rw [HCL.out]; exact itemSize) ?_ ?_ HX.out.one ?_
  · intro j hj
    rw [HCL.out] at hj
    rw [Nat.zero_add, cell_of_blk (heap_alloc_new w1 _) j, List.getElem?_eq_getElem (by simpa using hj)]; rfl
  · intro j _
    exact free_of_blk (heap_alloc_new w1 _) _
  rw [setCells_new w1 _ cs (by rw [HCL.out]; rfl) HCL.out HX.out.one]
  go_simp
  refine hK _ _ ?_
  clear hK K
  refine wpList_nil ?_
  obtain ⟨s2, hs, hI, hfr⟩ := ItP.start RD1.out HX.out rfl ⟨Int.le_refl 0, by show (0 : Int) < _; decide⟩
  have IP2 := Lib.hid hI
  have FR2 := Lib.hid (FR1.out.trans hfr)
  obtain ⟨x2, hx2⟩ : ∃ x2 : ItemV, x2 = { kind := 5, pos := st.at_ } := ⟨_, rfl⟩
  rw [← hx2] at IP2
  have HX2 := Lib.hid hx2
  obtain ⟨w2, hw⟩ : ∃ w2, w2 = w1.alloc (.cells cs.toArray 40) := ⟨_, rfl⟩
  rw [← hw] at IP2 FR2 ⊢
  obtain ⟨b, hb⟩ : ∃ b, b = w1.heap.size := ⟨_, rfl⟩
  rw [← hb] at IP2 ⊢
  have EQ2 := Lib.hid (EQ1.out.trans (bind_ok (show row k st1 = .ok x2 st1 by unfold row; rw [List.getD_eq_getElem?_getD, HKX.out, hx2]; rfl)))
  clear hs hI hfr hx2 hw hb
  have XN2 := Lib.hid (show x2.e = [] ∧ x2.params = [] by rw [HX2.out]; exact ⟨rfl, rfl⟩)
  go_wp2_with fail
  refine (rword_c NX FL IP2.out.rd).mono ?_
  intro e w3 hp
  rcases hp.elimG with ⟨a3, st3, v3, H3, hr, rfl, le, hR, hv, hfr⟩ | ⟨p, why, hr, rfl, hfr⟩
  rotate_left
  · have EQp := Lib.hid (EQ2.out.trans (bind_bad hr))
    have FRp := Lib.hid (FR2.out.trans hfr.unloc)
    clear hfr hr hp
    go_wp2_with fail
    exact ⟨rfl, Post.stop EQp.out FRp.out⟩
  obtain ⟨i3, rfl, hi3⟩ := hv
  have IP3 := Lib.hid (IP2.out.call hR le hfr)
  have FR3 := Lib.hid (FR2.out.trans hfr.unloc)
  have LE3 := Lib.hid (LE2.out.trans le)
  have EQ3 := Lib.hid (EQ2.out.trans (bind_ok hr))
  have HK3 := Lib.hid (Nat.lt_of_lt_of_le HK2.out (keep_word _ _ _ hr))
  clear hR hfr le hr hp
  obtain ⟨ia3, il3, ic3, hsl⟩ := FInts.slice hi3
  subst hsl
  have g0 : w3.cell? ⟨b, 2, none⟩ = some (str x2.name.word) := cell_of_blk IP3.out.blk 2
  have g1 : w3.cell? ⟨b, 3, none⟩ = some (.int .i64 x2.name.at_) := cell_of_blk IP3.out.blk 3
  have g2 : w3.cell? ⟨b, 4, none⟩ = some s2.nv := cell_of_blk IP3.out.blk 4
  have q0 := free_of_blk IP3.out.blk 2
  have q1 := free_of_blk IP3.out.blk 3
  have q2 := free_of_blk IP3.out.blk 4
  obtain ⟨hI, hfr⟩ := IP3.out.put_name hi3
  have IP4 := Lib.hid hI
  have FR4 := Lib.hid (FR3.out.trans hfr)
  have LE4 := Lib.hid LE3.out
  have EQ4 := Lib.hid EQ3.out
  obtain ⟨w4, hw⟩ : ∃ w4, w4 = ((w3.setCell ⟨b, 2, none⟩ (.string ⟨a3.word.toArray⟩)).setCell ⟨b, 3, none⟩ (.int .i64 a3.at_)).setCell ⟨b, 4, none⟩ (.slice ia3 il3 ic3) := ⟨_, rfl⟩
  have hw' : w4 = ((w3.setCell ⟨b, 2, none⟩ (str a3.word)).setCell ⟨b, 3, none⟩ (.int .i64 a3.at_)).setCell ⟨b, 4, none⟩ (.slice ia3 il3 ic3) := hw
  rw [← hw'] at IP4 FR4
  clear hw'
  obtain ⟨x4, hx4⟩ : ∃ x4, x4 = { x2 with name := a3 } := ⟨_, rfl⟩
  rw [← hx4] at IP4
  obtain ⟨s4, hs⟩ : ∃ s4, s4 = { s2 with nv := (.slice ia3 il3 ic3) } := ⟨_, rfl⟩
  rw [← hs] at IP4
  have HX4 := Lib.hid hx4
  clear hI hfr hs hx4
  go_wp2_with fail
  rw [← hw]
  clear hw g0 g1 g2 q0 q1 q2
  have HK4 := Lib.hid HK3.out
  have hE := EQ4.out
  try dsimp only at hE
  rw [← HX4.out] at hE
  have EQ4 := Lib.hid hE
  clear hE
  have XN := Lib.hid (show x4.e = [] ∧ x4.params = [] by rw [HX4.out]; exact XN2.out)
  refine (open_c NX FL 8 IP4.out.rd (fun e => FU.out (EQ4.out.trans (bind_bad e)))).mono ?_
  intro e w5 hp
  rcases hp.elimG with ⟨a5, st5, v5, H5, hr, rfl, le, hR, hv, hfr⟩ | ⟨p, why, hr, rfl, hfr⟩
  rotate_left
  · have EQp := Lib.hid (EQ4.out.trans (bind_bad hr))
    have FRp := Lib.hid (FR4.out.trans hfr.unloc)
    clear hfr hr hp
    go_wp2_with fail
    exact ⟨rfl, Post.stop EQp.out FRp.out⟩
  obtain rfl : v5 = .tuple #[] := hv
  have IP5 := Lib.hid (IP4.out.call hR le hfr)
  have FR5 := Lib.hid (FR4.out.trans hfr.unloc)
  have LE5 := Lib.hid (LE4.out.trans le)
  have EQ5 := Lib.hid (EQ4.out.trans (bind_ok hr))
  have HK5 := Lib.hid (Nat.lt_of_lt_of_le HK4.out (keep_open _ _ _ hr))
  clear hR hfr le hr hp
  obtain ⟨F5, hF, hE⟩ := bind_name EQ5.out
  have EQ5 := Lib.hid hE
  have HF5 := Lib.hid hF
  clear hE hF
  have GP := Lib.hid (GrP.start IP5.out XN.out.1 XN.out.2)
  go_wp2_with fail
  go_loopg [] (n + 1) (fun gg wr => ∃ (m : Nat) (xj : ItemV) (stj : St) (Hj : Frozen), m ≤ n ∧ m < gg ∧ Hid ((∃ sj pj, GrP X Hj wr r sv src stj b xj sj pj) ∧ Fr X w wr ∧ Le H Hj ∧ k < stj.items.length ∧ T = M.bind (groupOn src m xj) F5 stj))
  case atStart => exact ⟨n, x4, st5, H5, Nat.le_refl _, by omega, Lib.hid ⟨⟨_, _, GP.out⟩, FR5.out, LE5.out, HK5.out, EQ5.out⟩⟩
  case round =>
    clear GP
    obtain ⟨m, x6, st6, H6, hmn, hmg, hrel⟩ := hrel
    obtain ⟨⟨s6, pc6, hI⟩, hF, hL, hk, hE⟩ := hrel.out
    cases m with
    | zero => exact absurd (hE.trans (bind_bad (groupOn_zero _ _))) FU.out
    | succ m =>
    rw [groupOn_on] at hE
    have IP6 := Lib.hid hI
    have FR6 := Lib.hid hF
    have LE6 := Lib.hid hL
    have HK6 := Lib.hid hk
    have EQ6 := Lib.hid hE
    clear hrel hI hF hL hE hk
    obtain ⟨w6, hw⟩ : ∃ w6, w6 = wr := ⟨_, rfl⟩
    rw [← hw] at IP6 FR6 ⊢
    clear hw
    go_wp2_with fail
    have EQ6 := Lib.hid (EQ6.out.trans (bind_flat _ _ _ _))
    refine (see_g 9 IP6.out.rd (fun e => FU.out (EQ6.out.trans (bind_bad e)))).mono ?_
    intro e w7 hp
    rcases hp.elimG with ⟨a7, st7, v7, H7, hr, rfl, le, hR, hv, hfr⟩ | ⟨p, why, hr, rfl, hfr⟩
    rotate_left
    · have EQp := Lib.hid (EQ6.out.trans (bind_bad hr))
      have FRp := Lib.hid (FR6.out.trans hfr.unloc)
      clear hfr hr hp
      go_wp2_with fail
      exact ⟨rfl, Post.stop EQp.out FRp.out⟩
    obtain rfl : v7 = .bool a7 := hv
    have IP7 := Lib.hid (IP6.out.call hR le hfr)
    have FR7 := Lib.hid (FR6.out.trans hfr.unloc)
    have LE7 := Lib.hid (LE6.out.trans le)
    have EQ7 := Lib.hid (EQ6.out.trans (bind_ok hr))
    have HK7 := Lib.hid (Nat.lt_of_lt_of_le HK6.out (keep_see _ _ _ hr))
    clear hR hfr le hr hp
    cases a7 with
    | false =>
      go_wp2_with fail
      have EQ7 := Lib.hid (EQ7.out.trans (group_go (.inl rfl)))
      have EQ7 := Lib.hid (EQ7.out.trans (bind_flat _ _ _ _))
      go_upto_region 6 with (fail)
      have e2 : w7.cell? ⟨b, 14, none⟩ = some s6.pv := cell_of_blk IP7.out.blk 14
      have HEX := Lib.hid (rword_c NX FL IP7.out.rd.drew)
      obtain ⟨X1, hX1⟩ : ∃ X1, X1 = Loc X b s6.pv := ⟨_, rfl⟩
      cases hre : word src st7 with
      | bad hb =>
        cases hb with
        | fuel => exact absurd (EQ7.out.trans (bind_bad hre)) FU.out
        | stop p why =>
        have HEXP := Lib.hid (HEX.out.mono (R' := fun e w' => e = .panicked [{ v := haltV p why, recovered := false }] ∧ Fr X w w') (fun e w' hp => by
          rw [hre] at hp
          exact ⟨hp.1, FR7.out.trans ((Fr.drewOn X w7).trans hp.2.unloc)⟩))
        have EQp := Lib.hid (EQ7.out.trans (bind_bad hre))
        clear hre HEX
        refine wp_region_any (by kernel_rfl) ?_
        try (change wpAny _ _ _ _ _ _ _ (World.drew _))
        refine wpAny_take (i := 0) (v := ?_) rfl (by kernel_rfl) (by kernel_rfl) (by kernel_rfl) (fun _ _ _ h => h) (Or.inl ⟨by rfl, by intro w; go_simp; with_reducible rfl⟩) ?_
        refine wpAny_take (i := 2) (v := ?_) rfl (by kernel_rfl) (by kernel_rfl) (by kernel_rfl) (fun _ _ _ h => h) (Or.inl ⟨by rfl, by intro w; go_simp; with_reducible rfl⟩) ?_
        refine wpAny_ready (rs := [1, 3]) (by kernel_rfl) (by simp) ?_
        refine AllReady.cons rfl (fun K hK => ?_) (AllReady.cons rfl (fun K hK => ?_) AllReady.nil)
        · go_simp
          refine hK _ _ ?_
          clear hK K
          refine wpAny_ready (rs := [3]) (by kernel_rfl) (by simp) ?_
          refine AllReady.cons rfl (fun K hK => ?_) AllReady.nil
          · go_simp
            go_at_call 26
            refine HEXP.out.mono ?_
            rintro e wJ ⟨rfl, FRp⟩
            exact ⟨rfl, Post.stop EQp.out FRp⟩
        · go_simp
          go_at_call 26
          refine HEXP.out.mono ?_
          rintro e wJ ⟨rfl, FRp⟩
          exact ⟨rfl, Post.stop EQp.out FRp⟩
      | ok a8 st8 =>
        have hl : x6.params.length < most := Decidable.byContradiction fun hn => FU.out (EQ7.out.trans ((bind_ok hre).trans (by (rw [if_neg hn]) <;> rfl)))
        have hl' : x6.params.length < 1073741824 := hl
        have EQ8 := Lib.hid (EQ7.out.trans ((bind_ok hre).trans (by rw [if_pos hl])))
        have hix := word_index hre
        have HKE := Lib.hid (Nat.lt_of_lt_of_le HK7.out (keep_word _ _ _ hre))
        have HEX2 := Lib.hid (HEX.out.mono (R' := fun e w' => ∃ HJ, e = .returned (.agg #[str a8.word, .int .i64 a8.at_, .slice none 0 0]) ∧ Le H7 HJ ∧ RdOK (Loc X b s6.pv) HJ w' r sv src st8 ∧ Fr (Loc X b s6.pv) w7.drew w') (fun e w' hp => by
          rw [hre] at hp
          obtain ⟨v, HJ, h1, h2, h3, ⟨iv, h4, h4'⟩, h5⟩ := Post.okG hp
          obtain rfl : iv = .slice none 0 0 := by
            rcases h4' with ⟨e, _⟩ | ⟨_, _, _, h0, _⟩
            · exact e
            · rw [hix] at h0; simp at h0
          exact ⟨HJ, by rw [h1, h4], h2, h3, h5⟩))
        have HRF := Lib.hid (show ∀ HJ, RefR HJ a8 [str a8.word, .int .i64 a8.at_, .slice none 0 0] from fun HJ => ⟨.slice none 0 0, rfl, .inl ⟨rfl, by (rw [hix]) <;> rfl, by (rw [hix]) <;> rfl⟩⟩)
        obtain ⟨i0, hi0, hz0, hz1, hz2⟩ := info_parts infoRef
        have hlb : b < w7.heap.size := IP7.out.lt
        have HONE := Lib.hid (show ∀ u ∈ ([str a8.word, .int .i64 a8.at_, .slice none 0 0] : List Value), u.oneCell' = true from by
          intro u hu
          simp only [List.mem_cons, List.not_mem_nil, or_false] at hu
          rcases hu with rfl | rfl | rfl <;> rfl)
        clear hre HEX hl hix
        go_cut [] (fun wx => ∃ HJ sJ pJ, GrP X HJ wx r sv src st8 b { x6 with params := x6.params ++ [a8] } sJ pJ ∧ Fr X w7 wx ∧ Le H7 HJ)
        case first =>
          go_region_law (first
            | (go_simp; go_at_call 26; refine HEX2.out.mono ?_; rintro e wJ ⟨HJ, rfl, hleJ, hRJ, hfrJ⟩; have e2' : wJ.cell? ⟨b, 14, none⟩ = some s6.pv := (World.cell?_of_block (w := w7) (a := ⟨b, 14, none⟩) (hfrJ.block b (.inr (.inl rfl)))).trans e2; have hlJ : b < wJ.heap.size := Nat.lt_of_lt_of_le hlb hfrJ.size; have e2'' : (wJ.alloc (Obj.cells #[str a8.word, .int .i64 a8.at_, .slice none 0 0] 24)).cell? ⟨b, 14, none⟩ = some s6.pv := (World.cell?_of_block (w := wJ) (a := ⟨b, 14, none⟩) (heap_alloc_old wJ _ hlJ)).trans e2')
            | (refine step_append_lies _ (by rfl) _ _ _ (by rfl) 0 24 i0 _ 3 48 Tryz.underlying38 hi0 hz0 hz1 hz2 rfl (by omega) s6.pv x6.params.length pc6 (by rfl) (((IP7.out.drew.call hRJ hleJ hfrJ).prow).alloc _)
                ⟨wJ.heap.size, 0, none⟩ 1 1 [str a8.word, .int .i64 a8.at_, .slice none 0 0] (by rfl) (by rfl) (World.news_of_block (cs := #[str a8.word, .int .i64 a8.at_, .slice none 0 0]) (t := 24) (fr := (0, 0)) (heap_alloc_new wJ _)) HONE.out
                (by omega) (by unfold maxLen; omega) (by omega) (by simp) (wJ.heap.size + 1) (by simp) ?_; intro gg cap wG hownG hgrow hat hltG;
                have g2 : wG.frozen? ⟨b, 14, none⟩ = false := (World.frozen?_of_block (w := wJ) (a := ⟨b, 14, none⟩) (grown_block hgrow (IP7.out.drew.call hRJ hleJ hfrJ).lt (IP7.out.drew.call hRJ hleJ hfrJ).pb)).trans (free_of_blk (IP7.out.drew.call hRJ hleJ hfrJ).blk 14);
                have k2 : wG.cell? ⟨b, 14, none⟩ = some s6.pv := (World.cell?_of_block (w := wJ) (a := ⟨b, 14, none⟩) (grown_block hgrow (IP7.out.drew.call hRJ hleJ hfrJ).lt (IP7.out.drew.call hRJ hleJ hfrJ).pb)).trans e2'))
          all_goals
            have IPJ := (IP7.out.drew.call hRJ hleJ hfrJ).alloc (.cells #[str a8.word, .int .i64 a8.at_, .slice none 0 0] 24)
            obtain ⟨IPG, f6⟩ := IPJ.grow (HRF.out _) hgrow hownG (by
              rcases hat with e | e
              · exact .inl (by rw [e]; rfl)
              · exact .inr ⟨gg, by simp; omega, rfl⟩)
            have f7 := (((Fr.drewOn X w7).trans hfrJ.unloc).trans ((Fr.refl X wJ).alloc (IP7.out.drew.call hRJ hleJ hfrJ).xlt (.cells #[str a8.word, .int .i64 a8.at_, .slice none 0 0] 24))).trans f6
            go_wp2_with fail
            go_meet
            exact ⟨HJ, _, _, IPG, f7, hleJ⟩
        case rest =>
          obtain ⟨H8, s8, pc8, hI, hfr, hle⟩ := hcut
          obtain ⟨w8, hw⟩ : ∃ w8, w8 = wc := ⟨_, rfl⟩
          rw [← hw] at hI hfr ⊢
          obtain ⟨x8, hx8⟩ : ∃ x8, x8 = { x6 with params := x6.params ++ [a8] } := ⟨_, rfl⟩
          rw [← hx8] at hI
          have hE := EQ8.out
          clear EQ8
          try dsimp only at hE
          rw [← hx8] at hE
          have EQ8 := Lib.hid hE
          clear hE
          have IP8 := Lib.hid hI
          have FR8 := Lib.hid (FR7.out.trans hfr)
          have LE8 := Lib.hid (LE7.out.trans hle)
          have HK8 := Lib.hid HKE.out
          clear hI hfr hle hw e2 hl' hi0 hz0 hz1 hz2 hlb HEX2
          go_wp2_with fail
          have EQ8 := Lib.hid (EQ8.out.trans (bind_flat _ _ _ _))
          refine (take_c NX 11 IP8.out.rd (fun e => FU.out (EQ8.out.trans (bind_bad e)))).mono ?_
          intro e w9 hp
          rcases hp.elimG with ⟨a9, st9, v9, H9, hr, rfl, le, hR, hv, hfr⟩ | ⟨p, why, hr, rfl, hfr⟩
          rotate_left
          · have EQp := Lib.hid (EQ8.out.trans (bind_bad hr))
            have FRp := Lib.hid (FR8.out.trans hfr.unloc)
            clear hfr hr hp
            go_wp2_with fail
            exact ⟨rfl, Post.stop EQp.out FRp.out⟩
          obtain rfl : v9 = .bool a9 := hv
          have IP9 := Lib.hid (IP8.out.call hR le hfr)
          have FR9 := Lib.hid (FR8.out.trans hfr.unloc)
          have LE9 := Lib.hid (LE8.out.trans le)
          have EQ9 := Lib.hid (EQ8.out.trans (bind_ok hr))
          have HK9 := Lib.hid (Nat.lt_of_lt_of_le HK8.out (keep_take _ _ _ hr))
          clear hR hfr le hr hp
          cases a9 with
          | true =>
            go_wp2_with fail
            have hE := EQ9.out
            simp only [if_true, if_false, Bool.false_eq_true] at hE
            have EQ9 := Lib.hid hE
            clear hE
            go_roundg (m + 1)
            case measure => omega
            case rel => exact ⟨m, x8, st9, H9, by omega, by omega, Lib.hid ⟨⟨_, _, IP9.out⟩, FR9.out, LE9.out, HK9.out, EQ9.out⟩⟩
          | false =>
            go_wp2_with fail
            have hE := EQ9.out
            simp only [if_true, if_false, Bool.false_eq_true] at hE
            have EQ9 := Lib.hid hE
            clear hE
            have EQ9 := Lib.hid (EQ9.out.trans (bind_ok rfl))
            have hE := EQ9.out
            rw [HF5.out] at hE
            have EQ9 := Lib.hid hE
            clear hE
            obtain ⟨H10, hle, hI⟩ := IP9.out.done
            have IP10 := Lib.hid hI
            have FR10 := Lib.hid FR9.out
            have LE10 := Lib.hid (LE9.out.trans hle)
            have HK10 := Lib.hid HK9.out
            have EQ10 := Lib.hid EQ9.out
            obtain ⟨w10, hw⟩ : ∃ w10, w10 = w9 := ⟨_, rfl⟩
            rw [← hw] at IP10 FR10 ⊢
            clear hle hI hw
            refine (shut_c NX FL 9 IP10.out.rd (fun e => FU.out (EQ10.out.trans (bind_bad e)))).mono ?_
            intro e w11 hp
            rcases hp.elimG with ⟨a11, st11, v11, H11, hr, rfl, le, hR, hv, hfr⟩ | ⟨p, why, hr, rfl, hfr⟩
            rotate_left
            · have EQp := Lib.hid (EQ10.out.trans (bind_bad hr))
              have FRp := Lib.hid (FR10.out.trans hfr.unloc)
              clear hfr hr hp
              go_wp2_with fail
              exact ⟨rfl, Post.stop EQp.out FRp.out⟩
            obtain rfl : v11 = .tuple #[] := hv
            have IP11 := Lib.hid (IP10.out.call hR le hfr)
            have FR11 := Lib.hid (FR10.out.trans hfr.unloc)
            have LE11 := Lib.hid (LE10.out.trans le)
            have EQ11 := Lib.hid (EQ10.out.trans (bind_ok hr))
            have HK11 := Lib.hid (Nat.lt_of_lt_of_le HK10.out (keep_shut _ _ _ hr))
            clear hR hfr le hr hp
            go_wp2_with fail
            refine (HB.out _ _ _ _ _ _ _ IP11.out.rd (fun e => FU.out (EQ11.out.trans (bind_bad e)))).mono ?_
            intro e w12 hp
            rcases hp.elimG with ⟨a12, st12, v12, H12, hr, rfl, le, hR, hv, hfr⟩ | ⟨p, why, hr, rfl, hfr⟩
            rotate_left
            · have EQp := Lib.hid (EQ11.out.trans (bind_bad hr))
              have FRp := Lib.hid (FR11.out.trans hfr.unloc)
              clear hfr hr hp
              go_wp2_with fail
              exact ⟨rfl, Post.stop EQp.out FRp.out⟩
            have IP12 := Lib.hid (IP11.out.call hR le hfr)
            have FR12 := Lib.hid (FR11.out.trans hfr.unloc)
            have LE12 := Lib.hid (LE11.out.trans le)
            have EQ12 := Lib.hid (EQ11.out.trans (bind_ok hr))
            have HK12 := Lib.hid (Nat.lt_of_lt_of_le HK11.out ((keep_all n).1 .item _ _ _ hr))
            clear hR hfr le hr hp
            obtain ⟨ja12, jl12, jc12, hsl⟩ := FInts.slice hv
            subst hsl
            have g0 : w12.cell? ⟨b, 19, none⟩ = some (s8.kv) := cell_of_blk IP12.out.blk 19
            have q0 := free_of_blk IP12.out.blk 19
            obtain ⟨hI, hfr⟩ := IP12.out.put_kids hv
            have IP13 := Lib.hid hI
            have FR13 := Lib.hid (FR12.out.trans hfr)
            have LE13 := Lib.hid LE12.out
            have EQ13 := Lib.hid EQ12.out
            obtain ⟨w13, hw⟩ : ∃ w13, w13 = w12.setCell ⟨b, 19, none⟩ (.slice ja12 jl12 jc12) := ⟨_, rfl⟩
            rw [← hw] at IP13 FR13
            obtain ⟨x13, hx13⟩ : ∃ x13, x13 = { x8 with kids := a12 } := ⟨_, rfl⟩
            rw [← hx13] at IP13
            obtain ⟨s13, hs⟩ : ∃ s13 : ItemS, s13 = { s8 with kv := .slice ja12 jl12 jc12 } := ⟨_, rfl⟩
            rw [← hs] at IP13
            have HX13 := Lib.hid hx13
            clear hI hfr hs hx13 hv
            have HK13 := Lib.hid HK12.out
            go_upto_region 10 with (fail)
            rw [← hw]
            clear hw g0 q0
            have hE := EQ13.out
            try dsimp only at hE
            rw [← HX13.out] at hE
            have EQ13 := Lib.hid hE
            clear hE
            obtain ⟨H8, hle, hR8, hxR⟩ := IP13.out.done
            have LE8 := Lib.hid (LE13.out.trans hle)
            have RD8 := Lib.hid hR8
            have HXR := Lib.hid hxR
            obtain ⟨c7, hc7⟩ : ∃ c7, c7 = itemCells x13 s13 := ⟨_, rfl⟩
            rw [← hc7] at HXR
            have HC7 := Lib.hid (show ∀ (j : Nat) (v : Value), c7[j]? = some v → w13.cell? ⟨b, 0 + j, none⟩ = some v from fun j v hj => by rw [Nat.zero_add, cell_of_blk IP13.out.blk, ← hc7]; exact hj)
            have HL7 := Lib.hid (show c7.length = 21 by rw [hc7]; rfl)
            clear hle hR8 hxR hc7
            go_upto_region 10 with (fail)
            refine wp_region_lit ?_
            iterate 2
              refine wpList_step (fun K hK => ?_)
              go_simp
              refine hK _ _ ?_
              clear hK K
            refine wpList_step (fun K hK => ?_)
            refine step_load_cells (by rfl) _ _ (by rfl) b 0 (by rfl) c7 item_agg (by rw [HL7.out]; exact itemSize) HC7.out ?_
            refine hK _ _ ?_
            clear hK K
            go_wp2_with fail
            refine (end_c k HXR.out HK13.out RD8.out).mono ?_
            intro e w14 hp
            rcases hp.elimG with ⟨a14, st14, v14, H14, hr, rfl, le, hR, hv, hfr⟩ | ⟨p, why, hr, rfl, hfr⟩
            rotate_left
            · have EQp := Lib.hid (EQ13.out.trans hr)
              have FRp := Lib.hid (FR13.out.trans hfr)
              clear hfr hr hp
              go_wp2_with fail
              exact ⟨rfl, Post.stop EQp.out FRp.out⟩
            obtain rfl : v14 = .int .i64 a14 := hv
            have FIN := Lib.hid (show Post X w T (Good rI X H r sv src) (.returned (.int .i64 a14)) w14 from Post.ok (EQ13.out.trans hr) ⟨H14, LE8.out.trans le, hR, rfl⟩ (FR13.out.trans hfr))
            clear hfr hr hp hR le
            go_wp2_with fail
            go_ret
            exact FIN.out
    | true =>
      obtain ⟨ia, ic, hev⟩ := IP7.out.p_slice
      have g15 : w7.cell? ⟨b, 14, none⟩ = some (.slice ia x6.params.length ic) := by rw [← hev]; exact cell_of_blk IP7.out.blk 14
      clear hev
      by_cases hl : 0 < x6.params.length
      · have EQ7 := Lib.hid (EQ7.out.trans (group_go (.inr hl)))
        have hl2 : (((x6.params.length : Nat) : Int) > 0) := by omega
        go_wp2_with fail
        clear g15
        have EQ7 := Lib.hid (EQ7.out.trans (bind_flat _ _ _ _))
        go_upto_region 6 with (fail)
        have e2 : w7.cell? ⟨b, 14, none⟩ = some s6.pv := cell_of_blk IP7.out.blk 14
        have HEX := Lib.hid (rword_c NX FL IP7.out.rd.drew)
        obtain ⟨X1, hX1⟩ : ∃ X1, X1 = Loc X b s6.pv := ⟨_, rfl⟩
        cases hre : word src st7 with
        | bad hb =>
          cases hb with
          | fuel => exact absurd (EQ7.out.trans (bind_bad hre)) FU.out
          | stop p why =>
          have HEXP := Lib.hid (HEX.out.mono (R' := fun e w' => e = .panicked [{ v := haltV p why, recovered := false }] ∧ Fr X w w') (fun e w' hp => by
            rw [hre] at hp
            exact ⟨hp.1, FR7.out.trans ((Fr.drewOn X w7).trans hp.2.unloc)⟩))
          have EQp := Lib.hid (EQ7.out.trans (bind_bad hre))
          clear hre HEX
          refine wp_region_any (by kernel_rfl) ?_
          try (change wpAny _ _ _ _ _ _ _ (World.drew _))
          refine wpAny_take (i := 0) (v := ?_) rfl (by kernel_rfl) (by kernel_rfl) (by kernel_rfl) (fun _ _ _ h => h) (Or.inl ⟨by rfl, by intro w; go_simp; with_reducible rfl⟩) ?_
          refine wpAny_take (i := 2) (v := ?_) rfl (by kernel_rfl) (by kernel_rfl) (by kernel_rfl) (fun _ _ _ h => h) (Or.inl ⟨by rfl, by intro w; go_simp; with_reducible rfl⟩) ?_
          refine wpAny_ready (rs := [1, 3]) (by kernel_rfl) (by simp) ?_
          refine AllReady.cons rfl (fun K hK => ?_) (AllReady.cons rfl (fun K hK => ?_) AllReady.nil)
          · go_simp
            refine hK _ _ ?_
            clear hK K
            refine wpAny_ready (rs := [3]) (by kernel_rfl) (by simp) ?_
            refine AllReady.cons rfl (fun K hK => ?_) AllReady.nil
            · go_simp
              go_at_call 26
              refine HEXP.out.mono ?_
              rintro e wJ ⟨rfl, FRp⟩
              exact ⟨rfl, Post.stop EQp.out FRp⟩
          · go_simp
            go_at_call 26
            refine HEXP.out.mono ?_
            rintro e wJ ⟨rfl, FRp⟩
            exact ⟨rfl, Post.stop EQp.out FRp⟩
        | ok a8 st8 =>
          have hl : x6.params.length < most := Decidable.byContradiction fun hn => FU.out (EQ7.out.trans ((bind_ok hre).trans (by (rw [if_neg hn]) <;> rfl)))
          have hl' : x6.params.length < 1073741824 := hl
          have EQ8 := Lib.hid (EQ7.out.trans ((bind_ok hre).trans (by rw [if_pos hl])))
          have hix := word_index hre
          have HKE := Lib.hid (Nat.lt_of_lt_of_le HK7.out (keep_word _ _ _ hre))
          have HEX2 := Lib.hid (HEX.out.mono (R' := fun e w' => ∃ HJ, e = .returned (.agg #[str a8.word, .int .i64 a8.at_, .slice none 0 0]) ∧ Le H7 HJ ∧ RdOK (Loc X b s6.pv) HJ w' r sv src st8 ∧ Fr (Loc X b s6.pv) w7.drew w') (fun e w' hp => by
            rw [hre] at hp
            obtain ⟨v, HJ, h1, h2, h3, ⟨iv, h4, h4'⟩, h5⟩ := Post.okG hp
            obtain rfl : iv = .slice none 0 0 := by
              rcases h4' with ⟨e, _⟩ | ⟨_, _, _, h0, _⟩
              · exact e
              · rw [hix] at h0; simp at h0
            exact ⟨HJ, by rw [h1, h4], h2, h3, h5⟩))
          have HRF := Lib.hid (show ∀ HJ, RefR HJ a8 [str a8.word, .int .i64 a8.at_, .slice none 0 0] from fun HJ => ⟨.slice none 0 0, rfl, .inl ⟨rfl, by (rw [hix]) <;> rfl, by (rw [hix]) <;> rfl⟩⟩)
          obtain ⟨i0, hi0, hz0, hz1, hz2⟩ := info_parts infoRef
          have hlb : b < w7.heap.size := IP7.out.lt
          have HONE := Lib.hid (show ∀ u ∈ ([str a8.word, .int .i64 a8.at_, .slice none 0 0] : List Value), u.oneCell' = true from by
            intro u hu
            simp only [List.mem_cons, List.not_mem_nil, or_false] at hu
            rcases hu with rfl | rfl | rfl <;> rfl)
          clear hre HEX hl hix
          go_cut [] (fun wx => ∃ HJ sJ pJ, GrP X HJ wx r sv src st8 b { x6 with params := x6.params ++ [a8] } sJ pJ ∧ Fr X w7 wx ∧ Le H7 HJ)
          case first =>
            go_region_law (first
              | (go_simp; go_at_call 26; refine HEX2.out.mono ?_; rintro e wJ ⟨HJ, rfl, hleJ, hRJ, hfrJ⟩; have e2' : wJ.cell? ⟨b, 14, none⟩ = some s6.pv := (World.cell?_of_block (w := w7) (a := ⟨b, 14, none⟩) (hfrJ.block b (.inr (.inl rfl)))).trans e2; have hlJ : b < wJ.heap.size := Nat.lt_of_lt_of_le hlb hfrJ.size; have e2'' : (wJ.alloc (Obj.cells #[str a8.word, .int .i64 a8.at_, .slice none 0 0] 24)).cell? ⟨b, 14, none⟩ = some s6.pv := (World.cell?_of_block (w := wJ) (a := ⟨b, 14, none⟩) (heap_alloc_old wJ _ hlJ)).trans e2')
              | (refine step_append_lies _ (by rfl) _ _ _ (by rfl) 0 24 i0 _ 3 48 Tryz.underlying38 hi0 hz0 hz1 hz2 rfl (by omega) s6.pv x6.params.length pc6 (by rfl) (((IP7.out.drew.call hRJ hleJ hfrJ).prow).alloc _)
                  ⟨wJ.heap.size, 0, none⟩ 1 1 [str a8.word, .int .i64 a8.at_, .slice none 0 0] (by rfl) (by rfl) (World.news_of_block (cs := #[str a8.word, .int .i64 a8.at_, .slice none 0 0]) (t := 24) (fr := (0, 0)) (heap_alloc_new wJ _)) HONE.out
                  (by omega) (by unfold maxLen; omega) (by omega) (by simp) (wJ.heap.size + 1) (by simp) ?_; intro gg cap wG hownG hgrow hat hltG;
                  have g2 : wG.frozen? ⟨b, 14, none⟩ = false := (World.frozen?_of_block (w := wJ) (a := ⟨b, 14, none⟩) (grown_block hgrow (IP7.out.drew.call hRJ hleJ hfrJ).lt (IP7.out.drew.call hRJ hleJ hfrJ).pb)).trans (free_of_blk (IP7.out.drew.call hRJ hleJ hfrJ).blk 14);
                  have k2 : wG.cell? ⟨b, 14, none⟩ = some s6.pv := (World.cell?_of_block (w := wJ) (a := ⟨b, 14, none⟩) (grown_block hgrow (IP7.out.drew.call hRJ hleJ hfrJ).lt (IP7.out.drew.call hRJ hleJ hfrJ).pb)).trans e2'))
            all_goals
              have IPJ := (IP7.out.drew.call hRJ hleJ hfrJ).alloc (.cells #[str a8.word, .int .i64 a8.at_, .slice none 0 0] 24)
              obtain ⟨IPG, f6⟩ := IPJ.grow (HRF.out _) hgrow hownG (by
                rcases hat with e | e
                · exact .inl (by rw [e]; rfl)
                · exact .inr ⟨gg, by simp; omega, rfl⟩)
              have f7 := (((Fr.drewOn X w7).trans hfrJ.unloc).trans ((Fr.refl X wJ).alloc (IP7.out.drew.call hRJ hleJ hfrJ).xlt (.cells #[str a8.word, .int .i64 a8.at_, .slice none 0 0] 24))).trans f6
              go_wp2_with fail
              go_meet
              exact ⟨HJ, _, _, IPG, f7, hleJ⟩
          case rest =>
            obtain ⟨H8, s8, pc8, hI, hfr, hle⟩ := hcut
            obtain ⟨w8, hw⟩ : ∃ w8, w8 = wc := ⟨_, rfl⟩
            rw [← hw] at hI hfr ⊢
            obtain ⟨x8, hx8⟩ : ∃ x8, x8 = { x6 with params := x6.params ++ [a8] } := ⟨_, rfl⟩
            rw [← hx8] at hI
            have hE := EQ8.out
            clear EQ8
            try dsimp only at hE
            rw [← hx8] at hE
            have EQ8 := Lib.hid hE
            clear hE
            have IP8 := Lib.hid hI
            have FR8 := Lib.hid (FR7.out.trans hfr)
            have LE8 := Lib.hid (LE7.out.trans hle)
            have HK8 := Lib.hid HKE.out
            clear hI hfr hle hw e2 hl' hi0 hz0 hz1 hz2 hlb HEX2
            go_wp2_with fail
            have EQ8 := Lib.hid (EQ8.out.trans (bind_flat _ _ _ _))
            refine (take_c NX 11 IP8.out.rd (fun e => FU.out (EQ8.out.trans (bind_bad e)))).mono ?_
            intro e w9 hp
            rcases hp.elimG with ⟨a9, st9, v9, H9, hr, rfl, le, hR, hv, hfr⟩ | ⟨p, why, hr, rfl, hfr⟩
            rotate_left
            · have EQp := Lib.hid (EQ8.out.trans (bind_bad hr))
              have FRp := Lib.hid (FR8.out.trans hfr.unloc)
              clear hfr hr hp
              go_wp2_with fail
              exact ⟨rfl, Post.stop EQp.out FRp.out⟩
            obtain rfl : v9 = .bool a9 := hv
            have IP9 := Lib.hid (IP8.out.call hR le hfr)
            have FR9 := Lib.hid (FR8.out.trans hfr.unloc)
            have LE9 := Lib.hid (LE8.out.trans le)
            have EQ9 := Lib.hid (EQ8.out.trans (bind_ok hr))
            have HK9 := Lib.hid (Nat.lt_of_lt_of_le HK8.out (keep_take _ _ _ hr))
            clear hR hfr le hr hp
            cases a9 with
            | true =>
              go_wp2_with fail
              have hE := EQ9.out
              simp only [if_true, if_false, Bool.false_eq_true] at hE
              have EQ9 := Lib.hid hE
              clear hE
              go_roundg (m + 1)
              case measure => omega
              case rel => exact ⟨m, x8, st9, H9, by omega, by omega, Lib.hid ⟨⟨_, _, IP9.out⟩, FR9.out, LE9.out, HK9.out, EQ9.out⟩⟩
            | false =>
              go_wp2_with fail
              have hE := EQ9.out
              simp only [if_true, if_false, Bool.false_eq_true] at hE
              have EQ9 := Lib.hid hE
              clear hE
              have EQ9 := Lib.hid (EQ9.out.trans (bind_ok rfl))
              have hE := EQ9.out
              rw [HF5.out] at hE
              have EQ9 := Lib.hid hE
              clear hE
              obtain ⟨H10, hle, hI⟩ := IP9.out.done
              have IP10 := Lib.hid hI
              have FR10 := Lib.hid FR9.out
              have LE10 := Lib.hid (LE9.out.trans hle)
              have HK10 := Lib.hid HK9.out
              have EQ10 := Lib.hid EQ9.out
              obtain ⟨w10, hw⟩ : ∃ w10, w10 = w9 := ⟨_, rfl⟩
              rw [← hw] at IP10 FR10 ⊢
              clear hle hI hw
              refine (shut_c NX FL 9 IP10.out.rd (fun e => FU.out (EQ10.out.trans (bind_bad e)))).mono ?_
              intro e w11 hp
              rcases hp.elimG with ⟨a11, st11, v11, H11, hr, rfl, le, hR, hv, hfr⟩ | ⟨p, why, hr, rfl, hfr⟩
              rotate_left
              · have EQp := Lib.hid (EQ10.out.trans (bind_bad hr))
                have FRp := Lib.hid (FR10.out.trans hfr.unloc)
                clear hfr hr hp
                go_wp2_with fail
                exact ⟨rfl, Post.stop EQp.out FRp.out⟩
              obtain rfl : v11 = .tuple #[] := hv
              have IP11 := Lib.hid (IP10.out.call hR le hfr)
              have FR11 := Lib.hid (FR10.out.trans hfr.unloc)
              have LE11 := Lib.hid (LE10.out.trans le)
              have EQ11 := Lib.hid (EQ10.out.trans (bind_ok hr))
              have HK11 := Lib.hid (Nat.lt_of_lt_of_le HK10.out (keep_shut _ _ _ hr))
              clear hR hfr le hr hp
              go_wp2_with fail
              refine (HB.out _ _ _ _ _ _ _ IP11.out.rd (fun e => FU.out (EQ11.out.trans (bind_bad e)))).mono ?_
              intro e w12 hp
              rcases hp.elimG with ⟨a12, st12, v12, H12, hr, rfl, le, hR, hv, hfr⟩ | ⟨p, why, hr, rfl, hfr⟩
              rotate_left
              · have EQp := Lib.hid (EQ11.out.trans (bind_bad hr))
                have FRp := Lib.hid (FR11.out.trans hfr.unloc)
                clear hfr hr hp
                go_wp2_with fail
                exact ⟨rfl, Post.stop EQp.out FRp.out⟩
              have IP12 := Lib.hid (IP11.out.call hR le hfr)
              have FR12 := Lib.hid (FR11.out.trans hfr.unloc)
              have LE12 := Lib.hid (LE11.out.trans le)
              have EQ12 := Lib.hid (EQ11.out.trans (bind_ok hr))
              have HK12 := Lib.hid (Nat.lt_of_lt_of_le HK11.out ((keep_all n).1 .item _ _ _ hr))
              clear hR hfr le hr hp
              obtain ⟨ja12, jl12, jc12, hsl⟩ := FInts.slice hv
              subst hsl
              have g0 : w12.cell? ⟨b, 19, none⟩ = some (s8.kv) := cell_of_blk IP12.out.blk 19
              have q0 := free_of_blk IP12.out.blk 19
              obtain ⟨hI, hfr⟩ := IP12.out.put_kids hv
              have IP13 := Lib.hid hI
              have FR13 := Lib.hid (FR12.out.trans hfr)
              have LE13 := Lib.hid LE12.out
              have EQ13 := Lib.hid EQ12.out
              obtain ⟨w13, hw⟩ : ∃ w13, w13 = w12.setCell ⟨b, 19, none⟩ (.slice ja12 jl12 jc12) := ⟨_, rfl⟩
              rw [← hw] at IP13 FR13
              obtain ⟨x13, hx13⟩ : ∃ x13, x13 = { x8 with kids := a12 } := ⟨_, rfl⟩
              rw [← hx13] at IP13
              obtain ⟨s13, hs⟩ : ∃ s13 : ItemS, s13 = { s8 with kv := .slice ja12 jl12 jc12 } := ⟨_, rfl⟩
              rw [← hs] at IP13
              have HX13 := Lib.hid hx13
              clear hI hfr hs hx13 hv
              have HK13 := Lib.hid HK12.out
              go_upto_region 10 with (fail)
              rw [← hw]
              clear hw g0 q0
              have hE := EQ13.out
              try dsimp only at hE
              rw [← HX13.out] at hE
              have EQ13 := Lib.hid hE
              clear hE
              obtain ⟨H8, hle, hR8, hxR⟩ := IP13.out.done
              have LE8 := Lib.hid (LE13.out.trans hle)
              have RD8 := Lib.hid hR8
              have HXR := Lib.hid hxR
              obtain ⟨c7, hc7⟩ : ∃ c7, c7 = itemCells x13 s13 := ⟨_, rfl⟩
              rw [← hc7] at HXR
              have HC7 := Lib.hid (show ∀ (j : Nat) (v : Value), c7[j]? = some v → w13.cell? ⟨b, 0 + j, none⟩ = some v from fun j v hj => by rw [Nat.zero_add, cell_of_blk IP13.out.blk, ← hc7]; exact hj)
              have HL7 := Lib.hid (show c7.length = 21 by rw [hc7]; rfl)
              clear hle hR8 hxR hc7
              go_upto_region 10 with (fail)
              refine wp_region_lit ?_
              iterate 2
                refine wpList_step (fun K hK => ?_)
                go_simp
                refine hK _ _ ?_
                clear hK K
              refine wpList_step (fun K hK => ?_)
              refine step_load_cells (by rfl) _ _ (by rfl) b 0 (by rfl) c7 item_agg (by rw [HL7.out]; exact itemSize) HC7.out ?_
              refine hK _ _ ?_
              clear hK K
              go_wp2_with fail
              refine (end_c k HXR.out HK13.out RD8.out).mono ?_
              intro e w14 hp
              rcases hp.elimG with ⟨a14, st14, v14, H14, hr, rfl, le, hR, hv, hfr⟩ | ⟨p, why, hr, rfl, hfr⟩
              rotate_left
              · have EQp := Lib.hid (EQ13.out.trans hr)
                have FRp := Lib.hid (FR13.out.trans hfr)
                clear hfr hr hp
                go_wp2_with fail
                exact ⟨rfl, Post.stop EQp.out FRp.out⟩
              obtain rfl : v14 = .int .i64 a14 := hv
              have FIN := Lib.hid (show Post X w T (Good rI X H r sv src) (.returned (.int .i64 a14)) w14 from Post.ok (EQ13.out.trans hr) ⟨H14, LE8.out.trans le, hR, rfl⟩ (FR13.out.trans hfr))
              clear hfr hr hp hR le
              go_wp2_with fail
              go_ret
              exact FIN.out
      · have EQ7 := Lib.hid (EQ7.out.trans (group_end hl))
        have hl2 : ¬ (((x6.params.length : Nat) : Int) > 0) := by omega
        go_wp2_with fail
        clear g15
        have hE := EQ7.out
        rw [HF5.out] at hE
        have EQ7 := Lib.hid hE
        clear hE
        obtain ⟨H8, hle, hI⟩ := IP7.out.done
        have IP8 := Lib.hid hI
        have FR8 := Lib.hid FR7.out
        have LE8 := Lib.hid (LE7.out.trans hle)
        have HK8 := Lib.hid HK7.out
        have EQ8 := Lib.hid EQ7.out
        obtain ⟨w8, hw⟩ : ∃ w8, w8 = w7 := ⟨_, rfl⟩
        rw [← hw] at IP8 FR8 ⊢
        clear hle hI hw
        refine (shut_c NX FL 9 IP8.out.rd (fun e => FU.out (EQ8.out.trans (bind_bad e)))).mono ?_
        intro e w9 hp
        rcases hp.elimG with ⟨a9, st9, v9, H9, hr, rfl, le, hR, hv, hfr⟩ | ⟨p, why, hr, rfl, hfr⟩
        rotate_left
        · have EQp := Lib.hid (EQ8.out.trans (bind_bad hr))
          have FRp := Lib.hid (FR8.out.trans hfr.unloc)
          clear hfr hr hp
          go_wp2_with fail
          exact ⟨rfl, Post.stop EQp.out FRp.out⟩
        obtain rfl : v9 = .tuple #[] := hv
        have IP9 := Lib.hid (IP8.out.call hR le hfr)
        have FR9 := Lib.hid (FR8.out.trans hfr.unloc)
        have LE9 := Lib.hid (LE8.out.trans le)
        have EQ9 := Lib.hid (EQ8.out.trans (bind_ok hr))
        have HK9 := Lib.hid (Nat.lt_of_lt_of_le HK8.out (keep_shut _ _ _ hr))
        clear hR hfr le hr hp
        go_wp2_with fail
        refine (HB.out _ _ _ _ _ _ _ IP9.out.rd (fun e => FU.out (EQ9.out.trans (bind_bad e)))).mono ?_
        intro e w10 hp
        rcases hp.elimG with ⟨a10, st10, v10, H10, hr, rfl, le, hR, hv, hfr⟩ | ⟨p, why, hr, rfl, hfr⟩
        rotate_left
        · have EQp := Lib.hid (EQ9.out.trans (bind_bad hr))
          have FRp := Lib.hid (FR9.out.trans hfr.unloc)
          clear hfr hr hp
          go_wp2_with fail
          exact ⟨rfl, Post.stop EQp.out FRp.out⟩
        have IP10 := Lib.hid (IP9.out.call hR le hfr)
        have FR10 := Lib.hid (FR9.out.trans hfr.unloc)
        have LE10 := Lib.hid (LE9.out.trans le)
        have EQ10 := Lib.hid (EQ9.out.trans (bind_ok hr))
        have HK10 := Lib.hid (Nat.lt_of_lt_of_le HK9.out ((keep_all n).1 .item _ _ _ hr))
        clear hR hfr le hr hp
        obtain ⟨ja10, jl10, jc10, hsl⟩ := FInts.slice hv
        subst hsl
        have g0 : w10.cell? ⟨b, 19, none⟩ = some (s6.kv) := cell_of_blk IP10.out.blk 19
        have q0 := free_of_blk IP10.out.blk 19
        obtain ⟨hI, hfr⟩ := IP10.out.put_kids hv
        have IP11 := Lib.hid hI
        have FR11 := Lib.hid (FR10.out.trans hfr)
        have LE11 := Lib.hid LE10.out
        have EQ11 := Lib.hid EQ10.out
        obtain ⟨w11, hw⟩ : ∃ w11, w11 = w10.setCell ⟨b, 19, none⟩ (.slice ja10 jl10 jc10) := ⟨_, rfl⟩
        rw [← hw] at IP11 FR11
        obtain ⟨x11, hx11⟩ : ∃ x11, x11 = { x6 with kids := a10 } := ⟨_, rfl⟩
        rw [← hx11] at IP11
        obtain ⟨s11, hs⟩ : ∃ s11 : ItemS, s11 = { s6 with kv := .slice ja10 jl10 jc10 } := ⟨_, rfl⟩
        rw [← hs] at IP11
        have HX11 := Lib.hid hx11
        clear hI hfr hs hx11 hv
        have HK11 := Lib.hid HK10.out
        go_upto_region 10 with (fail)
        rw [← hw]
        clear hw g0 q0
        have hE := EQ11.out
        try dsimp only at hE
        rw [← HX11.out] at hE
        have EQ11 := Lib.hid hE
        clear hE
        obtain ⟨H8, hle, hR8, hxR⟩ := IP11.out.done
        have LE8 := Lib.hid (LE11.out.trans hle)
        have RD8 := Lib.hid hR8
        have HXR := Lib.hid hxR
        obtain ⟨c7, hc7⟩ : ∃ c7, c7 = itemCells x11 s11 := ⟨_, rfl⟩
        rw [← hc7] at HXR
        have HC7 := Lib.hid (show ∀ (j : Nat) (v : Value), c7[j]? = some v → w11.cell? ⟨b, 0 + j, none⟩ = some v from fun j v hj => by rw [Nat.zero_add, cell_of_blk IP11.out.blk, ← hc7]; exact hj)
        have HL7 := Lib.hid (show c7.length = 21 by rw [hc7]; rfl)
        clear hle hR8 hxR hc7
        go_upto_region 10 with (fail)
        refine wp_region_lit ?_
        iterate 2
          refine wpList_step (fun K hK => ?_)
          go_simp
          refine hK _ _ ?_
          clear hK K
        refine wpList_step (fun K hK => ?_)
        refine step_load_cells (by rfl) _ _ (by rfl) b 0 (by rfl) c7 item_agg (by rw [HL7.out]; exact itemSize) HC7.out ?_
        refine hK _ _ ?_
        clear hK K
        go_wp2_with fail
        refine (end_c k HXR.out HK11.out RD8.out).mono ?_
        intro e w12 hp
        rcases hp.elimG with ⟨a12, st12, v12, H12, hr, rfl, le, hR, hv, hfr⟩ | ⟨p, why, hr, rfl, hfr⟩
        rotate_left
        · have EQp := Lib.hid (EQ11.out.trans hr)
          have FRp := Lib.hid (FR11.out.trans hfr)
          clear hfr hr hp
          go_wp2_with fail
          exact ⟨rfl, Post.stop EQp.out FRp.out⟩
        obtain rfl : v12 = .int .i64 a12 := hv
        have FIN := Lib.hid (show Post X w T (Good rI X H r sv src) (.returned (.int .i64 a12)) w12 from Post.ok (EQ11.out.trans hr) ⟨H12, LE8.out.trans le, hR, rfl⟩ (FR11.out.trans hfr))
        clear hfr hr hp hR le
        go_wp2_with fail
        go_ret
        exact FIN.out
end
end Go.Proofs.YtkaeceedofmhbaaGreatDoor
