/-
  syntax: begin.
  The reader's memory: one item written anew.
  syntax: end.
-/
import Derived.Test.YtkaeceedofmhbaaGreatDoorGSy14
import Derived.Test.YtkaeceedofmhbaaGreatDoorGSy6
import Derived.Test.YtkaeceedofmhbaaGreatDoorGIt8
import Derived.Deep.RegionLaw
namespace Go.Proofs.YtkaeceedofmhbaaGreatDoor
open Go.RowKit Bk
attribute [local go_sem ↓] Go.wp_at_zero Go.wp_at_succ

theorem infoItem : (Tryz.prog.info? 40).map (fun i => (i.zero, i.size, i.bytes)) = some (some (.agg #[.int .i64 0, .int .i64 0, .string ⟨#[]⟩, .int .i64 0, .slice none 0 0, .string ⟨#[]⟩, .int .i64 0, .slice none 0 0, .string ⟨#[]⟩, .int .i64 0, .slice none 0 0, .string ⟨#[]⟩, .int .i64 0, .slice none 0 0, .slice none 0 0, .slice none 0 0, .int .i64 0, .int .i64 0, .string ⟨#[]⟩, .slice none 0 0, .slice none 0 0]), 21, 336) := by kernel_rfl

section
variable {X : Nat → Prop} {H : Frozen} {r : Nat} {sv : Value} {src : Bytes} {st : St} {w w1 : World}

theorem next_items {u : Unit} {st1 : St} (h : next src st = .ok u st1) : st1.items = st.items := by
  unfold next at h
  dsimp only at h
  split at h
  · injection h with _ h; rw [← h]
  · split at h <;> (injection h with _ h; rw [← h])

/-- The item that is begun, as cells. -/
def newCells (kind : Int) (at_ : Nat) : List Value :=
  [.int .i64 kind, .int .i64 at_, .string ⟨#[]⟩, .int .i64 0, .slice none 0 0, .string ⟨#[]⟩, .int .i64 0, .slice none 0 0, .string ⟨#[]⟩, .int .i64 0, .slice none 0 0, .string ⟨#[]⟩, .int .i64 0, .slice none 0 0,
    .slice none 0 0, .slice none 0 0, .int .i64 0, .int .i64 0, .string ⟨#[]⟩, .slice none 0 0, .slice none 0 0]
theorem newItem (H : Frozen) (kind : Int) (at_ : Nat) : ItemR H { kind := kind, pos := at_ } (newCells kind at_) :=
  ⟨⟨.slice none 0 0, .slice none 0 0, .slice none 0 0, .slice none 0 0, .slice none 0 0, .slice none 0 0, .slice none 0 0, .slice none 0 0⟩, rfl,
    ⟨.inl ⟨rfl, rfl, rfl⟩, .inl ⟨rfl, rfl, rfl⟩, .inl ⟨rfl, rfl, rfl⟩, .inl ⟨rfl, rfl, rfl⟩, .inl ⟨rfl, rfl, rfl⟩, .inl ⟨rfl, rfl, rfl⟩⟩, ⟨[], rfl, .inl ⟨rfl, rfl, rfl⟩⟩, .inl ⟨rfl, rfl, rfl⟩⟩

set_option maxRecDepth 100000 in
set_option maxHeartbeats 4000000 in
theorem begin_c (kind : Int) (h : RdOK X H w r sv src st) (hf : begin_ src kind st ≠ .bad .fuel) :
    Calls Tryz.prog 74 #[.pointer (some ⟨r, 0, none⟩), .int .i64 kind] w (Post X w (begin_ src kind st) (Good rN X H r sv src)) := by
  have hl : st.items.length < most := by
    refine Decidable.byContradiction fun hn => hf ?_
    simp [begin_, hn]
  obtain ⟨v, ic, nc, h⟩ := h
  obtain ⟨T, hT⟩ : ∃ T, T = begin_ src kind st := ⟨_, rfl⟩
  rw [← hT]
  have EQ0 := Lib.hid (hT.trans (if_pos hl))
  have NX := Lib.hid next_c
  have hlt := h.lt
  have c17 : w.cell? ⟨r, 17, none⟩ = some v.iv := cell_of_blk h.blk 17
  have c1 : w.cell? ⟨r, 1, none⟩ = some (.int .i64 st.at_) := cell_of_blk h.blk 1
  have f17 := free_of_blk h.blk 17
  have hown := h.items
  obtain ⟨i0, hi0, hz0, hz1, hz2⟩ := info_parts infoItem
  have HP := Lib.hid h
  have ar := h.r_ne_i
  have hlm : st.items.length < 1073741824 := hl
  obtain ⟨at_, hat_⟩ : ∃ a, a = st.at_ := ⟨_, rfl⟩
  rw [← hat_] at c1
  have HAT := Lib.hid hat_
  clear h hf hT hl hat_
  go_enter Tryz.func74, Tryz.ntmps74
  go_upto_region 1 with (fail)
  have hone : ∀ u ∈ newCells kind at_, u.oneCell' = true := by
    intro u hu
    simp only [newCells, List.mem_cons, List.not_mem_nil, or_false] at hu
    rcases hu with rfl | rfl | rfl | rfl | rfl | rfl | rfl | rfl | rfl | rfl | rfl | rfl | rfl | rfl | rfl | rfl | rfl | rfl | rfl | rfl | rfl <;> rfl
  have HONE := Lib.hid hone
  clear hone
  go_region_law
    ((refine step_append_lies _ (by rfl) _ _ _ (by rfl) 0 40 i0 _ 21 336 Tryz.underlying25 hi0 hz0 hz1 hz2 rfl (by omega) v.iv st.items.length ic (by rfl) ((hown.alloc _).drew)
        ⟨w.heap.size, 0, none⟩ 1 1 (newCells kind at_) (by rfl) (by rfl) (World.news_of_block (cs := (newCells kind at_).toArray) (t := 40) (fr := (0, 0)) (heap_alloc_new w _)) HONE.out
        (by omega) (by unfold maxLen; omega) (by omega) (by simp) (w.heap.size + 1) (by simp) ?_; intro gg cap w1 hown1 hgrow hat hlt1; have g17 := (World.frozen?_of_block (a := ⟨r, 17, none⟩) (grown_drew hgrow hlt ar)).trans f17; have k17 := (World.cell?_of_block (a := ⟨r, 17, none⟩) (grown_drew hgrow hlt ar)).trans c17))
  all_goals
    have fin := HP.out.items_append (x := { kind := kind, pos := at_ }) (newItem H kind at_) (grown_of_drew hgrow) hown1 (by
      rcases hat with e | e
      · exact .inl e.symm
      · exact .inr ⟨gg, by omega, rfl⟩)
    have FIN := Lib.hid fin.2
    have RD1 := Lib.hid (show RdOK X H _ r sv src _ from ⟨_, _, _, fin.1⟩)
    clear fin hgrow hown1 hat hown
    rw [HAT.out] at RD1
    go_wp2_with fail
    refine (NX.out _ _ _ _ _ _ _ RD1.out).mono ?_
    intro e w2 hp
    rcases hp.elimG with ⟨a, st2, v2, H2, hr, rfl, le, hR, hv, hfr⟩ | ⟨p, why, hr, rfl, hfr⟩
    rotate_left
    · have EQp := Lib.hid (EQ0.out.trans (bind_bad hr))
      have FRp := Lib.hid (FIN.out.trans hfr)
      clear hfr hr hp
      go_wp2_with fail
      exact ⟨rfl, Post.stop EQp.out FRp.out⟩
    obtain rfl : v2 = .tuple #[] := hv
    have RD2 := Lib.hid hR
    have FR2 := Lib.hid (FIN.out.trans hfr)
    have LE2 := Lib.hid le
    have EQ2 := Lib.hid (EQ0.out.trans (bind_ok hr))
    have hit := next_items hr
    have hlen : st2.items.length = st.items.length + 1 := by rw [hit]; simp
    obtain ⟨V2, ic2, nc2, hR2⟩ := hR
    obtain ⟨ia, ib, hiv⟩ : ∃ ia ib, V2.iv = .slice ia st2.items.length ib := by
      rcases hR2.items.2 with ⟨e, h0⟩ | ⟨g, cap, cur, e, _⟩
      · exact ⟨none, 0, by rw [e, h0]⟩
      · exact ⟨_, _, e⟩
    have d17 : w2.cell? ⟨r, 17, none⟩ = some (.slice ia (st.items.length + 1) ib) := by rw [← hlen, ← hiv]; exact cell_of_blk hR2.blk 17
    have e1 : IntKind.i64.wrap ((st.items.length : Int) + 1 - 1) = (st.items.length : Int) := by rw [IntWalk.i64_in _ ⟨by omega, by omega⟩]; omega
    clear hfr hr hp le hR2 hiv hit hlen
    go_wp2_with fail
    go_ret
    exact Post.ok (EQ2.out.trans rfl) ⟨H2, LE2.out, RD2.out, rfl⟩ FR2.out
end
end Go.Proofs.YtkaeceedofmhbaaGreatDoor
namespace Go.Proofs.YtkaeceedofmhbaaGreatDoor
open Go.RowKit Bk

theorem setCells_same (g : Nat) : ∀ (vs : List Value) (o : Nat) (w : World), (w.setCells g o vs).os = w.os ∧ (w.setCells g o vs).tape = w.tape ∧ (w.setCells g o vs).output = w.output ∧ (w.setCells g o vs).heap.size = w.heap.size ∧ ∀ k, k ≠ g → (w.setCells g o vs).heap[k]? = w.heap[k]?
  | [], _, _ => ⟨rfl, rfl, rfl, rfl, fun _ _ => rfl⟩
  | v :: r, o, w => by
    obtain ⟨h1, h2, h3, h4, h5⟩ := setCells_same g r (o + 1) (w.setCell ⟨g, o, none⟩ v)
    exact ⟨h1, h2, h3, by rw [World.setCells, h4]; simp [World.setCell], fun k hk => (h5 k hk).trans (Below.heap_setCell _ _ _ _ hk)⟩

theorem setCells_heap {g t : Nat} : ∀ (vs : List Value) (o : Nat) (w : World) (cs : List Value), w.heap[g]? = some (.cells cs.toArray t (0, 0)) → o + vs.length ≤ cs.length →
    (w.setCells g o vs).heap[g]? = some (.cells (cs.take o ++ vs ++ cs.drop (o + vs.length)).toArray t (0, 0))
  | [], o, w, cs, h, _ => by simpa [World.setCells] using h
  | v :: r, o, w, cs, h, hl => by
    simp only [List.length_cons] at hl
    have h1 := blk_set h o v
    have h2 := setCells_heap r (o + 1) _ _ h1 (by simp; omega)
    rw [World.setCells, h2]
    have e : cs.set o v = cs.take o ++ v :: cs.drop (o + 1) := List.set_eq_take_append_cons_drop.trans (if_pos (by omega))
    have e1 : (cs.set o v).take (o + 1) = cs.take o ++ [v] := by
      rw [e, List.take_append, List.take_of_length_le (by simp; omega), show o + 1 - (cs.take o).length = 1 by simp; omega]; rfl
    have e2 : (cs.set o v).drop (o + 1 + r.length) = cs.drop (o + (v :: r).length) := by
      rw [List.drop_set_of_lt (by omega)]; simp only [List.length_cons]; congr 1; omega
    rw [e1, e2]; simp

theorem take_three {α : Type} (l c : List α) (o n m : Nat) (hc : c.length = m) (h : o + m ≤ n) (hn : n ≤ l.length) : (l.take o ++ c ++ l.drop (o + m)).take n = (l.take n).take o ++ c ++ (l.take n).drop (o + m) := by
  rw [List.take_append, List.take_of_length_le (by simp; omega), List.take_take, Nat.min_eq_left (by omega), List.drop_take]
  congr 2
  simp; omega

section
variable {X : Nat → Prop} {H : Frozen} {w w1 : World} {r : Nat} {sv : Value} {src : Bytes} {st : St} {v : RdS} {ic nc : List Value} {v' : Value} {o : Obj}

theorem RdP.items_set {x : ItemV} {cs : List Value} {g cap k : Nat} {cur : Array Value} (h : RdP X H w r sv src st v ic nc) (hk : ItemR H x cs) (hl : cs.length = 21) (hi : k < st.items.length) (hiv : v.iv = .slice (some ⟨g, 0, none⟩) st.items.length cap) (hg : w.heap[g]? = some (.cells cur 40 (0, 0)))
    (h1 : st.items.length ≤ cap) (h2 : cap ≤ maxLen) (h3 : cur.size = cap * 21) (h4 : cur.toList.take (st.items.length * 21) = ic) (w' : World) (hw : w' = w.setCells g (k * 21) cs) :
    RdP X H w' r sv src { st with items := st.items.set k x } v (ic.take (k * 21) ++ cs ++ ic.drop (k * 21 + 21)) nc ∧ Fr X w w' := by
  obtain ⟨s1, s2, s3, s4, s5⟩ := setCells_same g cs (k * 21) w
  rw [← hw] at s1 s2 s3 s4 s5
  have ho : v.iv.ownBlock = some g := by rw [hiv]; rfl
  have hgw : ∀ j, v.wv.ownBlock = some j → j ≠ g := fun j hj e => h.w_ne_i hj (by rw [ho, e])
  have hgn : ∀ j, v.nv.ownBlock = some j → j ≠ g := fun j hj e => h.i_ne_n ho (by rw [hj, e])
  have hgr : r ≠ g := fun e => h.r_ne_i (by rw [ho, e])
  have bs : Beside w w' r v := fun j hj a b c d => s5 j (fun e => c (by rw [ho, e]))
  have hic : ic.length = st.items.length * 21 := h.items.1
  refine ⟨⟨?_, ?_, ?_, RowsR.set (fun a c hc => by obtain ⟨s, rfl, _⟩ := hc; rfl) hk k hi h.irel, ?_, h.nrel, h.trel, h.xr, h.xw, h.xi, h.xn, h.hr, h.hw, h.hi, h.hn, h.heap.keep (h.beside_h bs), fun j hj => by rw [s4]; exact h.xlt j hj, h.xh, h.txt.keep (h.beside_x bs), h.slen, h.ato, h.tol, h.badl, h.openl, h.glob.keep fun j hj => h.beside_x bs j (h.gx j hj), h.gx⟩, ⟨s1, s2, s3, by rw [s4]; exact Nat.le_refl _, h.beside_x bs⟩⟩
  · rw [s5 r hgr]; exact h.blk
  · exact ownsRow_block h.want fun j hj => s5 j (hgw j hj)
  · have hkl : k * 21 + 21 ≤ st.items.length * 21 := by omega
    have hcl : st.items.length * 21 ≤ cur.toList.length := by rw [Array.length_toList, h3]; exact Nat.mul_le_mul_right _ h1
    have hb := setCells_heap cs (k * 21) w cur.toList hg (by rw [hl]; omega)
    rw [← hw, hl] at hb
    refine ⟨by simp [hl, hic]; omega, .inr ⟨g, cap, _, ?_, Nat.zero_le _, hb, ?_, h2, ?_, ?_⟩⟩
    · simpa using hiv
    · simpa using h1
    · simp [hl, h3]; omega
    · have := take_three cur.toList cs (k * 21) (st.items.length * 21) 21 hl hkl hcl
      rw [h4] at this
      simpa using this
  · exact ownsRow_block h.nodes fun j hj => s5 j (hgn j hj)
end
end Go.Proofs.YtkaeceedofmhbaaGreatDoor
namespace Go.Proofs.YtkaeceedofmhbaaGreatDoor
open Go.RowKit Bk
attribute [local go_sem ↓] Go.wp_at_zero Go.wp_at_succ

/-- A struct read whole. -/
theorem step_load_cells {P : Program} {ops : Array Oper} {o : Oper} {a : Act} {w : World} {K : Act → World → Prop} {Q : Exit → Act → World → Prop} {E : Prop}
    (hg : o.guard = none) (p : Operand) (t : TypeId) (hop : o.op = Op.load t p) (b off : Nat) (hp : a.eval p = .pointer (some ⟨b, off, none⟩)) (vs : List Value)
    (ha : ∀ w, (isAgg t).run P w = .ok true w) (hz : ∀ w, (Go.sizeOf t).run P w = .ok vs.length w) (hc : ∀ j v, vs[j]? = some v → w.cell? ⟨b, off + j, none⟩ = some v)
    (hK : K (a.put o.dst (.agg vs.toArray)) w) :
    if Region.wanted o (yielded ops a.tmps) = true then Oper.wp P o a w K Q else E := by
  have hw : Region.wanted o (yielded ops a.tmps) = true := by simp [Region.wanted, hg]
  rw [if_pos hw]
  have hrun := run_loadCells_list (P := P) (w := w) ⟨b, off, none⟩ vs (fun j v hj => by
    have hadd : (⟨b, off, none⟩ : Addr).add j = ⟨b, off + j, none⟩ := by unfold Addr.add; split <;> simp_all
    rw [hadd]; exact hc j v hj)
  unfold Oper.wp
  have hs : (Instr.sureAddr (.pointer (some ⟨b, off, none⟩))).run P w = .ok ⟨b, off, none⟩ w := rfl
  have hv : (loadVar t ⟨b, off, none⟩).run P w = .ok (.agg vs.toArray) w := by
    unfold loadVar
    simp [ha, hz, hrun, Result.andThen]
  simp [execOp, hop, hp, Instr.loadAt, hs, hv, Result.andThen]
  exact hK
theorem agg_of {P : Program} {t : TypeId} {fs} (h : P.underlying t = some (.struct fs)) : ∀ w, (isAgg t).run P w = .ok true w := fun w => by
  simp [isAgg, underlying, h]
theorem item_agg : ∀ w, (isAgg 40).run Tryz.prog w = .ok true w := by
  have h : (match Tryz.prog.underlying 40 with | some (.struct _) => true | _ => false) = true := by kernel_rfl
  generalize hu : Tryz.prog.underlying 40 = u at h
  match u, h with
  | some (.struct fs), _ => exact agg_of hu

/-- A struct stored whole, as one step of a region that draws. -/
theorem step_store_cells {P : Program} {ops : Array Oper} {o : Oper} {a : Act} {w : World} {K : Act → World → Prop} {Q : Exit → Act → World → Prop} {E : Prop}
    (hg : o.guard = none) (p x : Operand) (t : TypeId) (hop : o.op = Op.store t p x) (b off : Nat) (hp : a.eval p = .pointer (some ⟨b, off, none⟩)) (vs : List Value) (hx : a.eval x = .agg vs.toArray)
    (hz : ∀ w, (Go.sizeOf t).run P w = .ok vs.length w) (hc : ∀ j, j < vs.length → (w.cell? ⟨b, off + j, none⟩).isSome = true) (hf : ∀ j, j < vs.length → w.frozen? ⟨b, off + j, none⟩ = false) (h1 : ∀ v ∈ vs, v.oneCell' = true)
    (hK : K (a.put o.dst undef) (w.setCells b off vs)) :
    if Region.wanted o (yielded ops a.tmps) = true then Oper.wp P o a w K Q else E := by
  have hw : Region.wanted o (yielded ops a.tmps) = true := by simp [Region.wanted, hg]
  rw [if_pos hw]
  have hrun := run_storeCells_cells (P := P) b off vs 0 w (by simpa using hc) (by simpa using hf) h1
  unfold Oper.wp
  have hs : (Instr.sureAddr (.pointer (some ⟨b, off, none⟩))).run P w = .ok ⟨b, off, none⟩ w := rfl
  have hv : (storeVar t ⟨b, off, none⟩ (.agg vs.toArray)).run P w = .ok () (w.setCells b off vs) := by
    unfold storeVar
    simp [hz, Value.cells, hrun, Result.andThen]
  simp [execOp, hop, hp, hx, Instr.storeAt, hs, hv, Result.andThen]
  exact hK

section
variable {X : Nat → Prop} {H : Frozen} {r : Nat} {sv : Value} {src : Bytes} {st : St} {w w1 : World}

theorem FRefs.slice {i : Value} {l : List RefV} (h : FRefs H i l) : ∃ a n c, i = .slice a n c := by
  obtain ⟨cs, _, h⟩ := h
  rcases h with ⟨e, _⟩ | ⟨g, cap, e, _⟩
  · exact ⟨_, _, _, e⟩
  · exact ⟨_, _, _, e⟩

/-- The cells of an item, as the machine sees them. -/
theorem ItemR.form {x : ItemV} {cs : List Value} (h : ItemR H x cs) : ∃ (a0 a1 : Int) (b2 : ByteArray) (a3 : Int) (p4 : Option Addr) (l4 k4 : Nat) (b5 : ByteArray) (a6 : Int) (p7 : Option Addr) (l7 k7 : Nat) (b8 : ByteArray) (a9 : Int) (p10 : Option Addr) (l10 k10 : Nat)
    (b11 : ByteArray) (a12 : Int) (p13 : Option Addr) (l13 k13 : Nat) (p14 : Option Addr) (l14 k14 : Nat) (p15 : Option Addr) (l15 k15 : Nat) (a16 a17 : Int) (b18 : ByteArray) (p19 : Option Addr) (l19 k19 : Nat) (p20 : Option Addr) (l20 k20 : Nat),
    cs = [.int .i64 a0, .int .i64 a1, .string b2, .int .i64 a3, .slice p4 l4 k4, .string b5, .int .i64 a6, .slice p7 l7 k7, .string b8, .int .i64 a9, .slice p10 l10 k10, .string b11, .int .i64 a12, .slice p13 l13 k13, .slice p14 l14 k14, .slice p15 l15 k15, .int .i64 a16, .int .i64 a17, .string b18, .slice p19 l19 k19, .slice p20 l20 k20] := by
  obtain ⟨⟨nv, fv, tv, ov, pv, ev, kv, lv⟩, rfl, ⟨h1, h2, h3, h4, h5, h6⟩, h7, h8⟩ := h
  obtain ⟨_, _, _, e1⟩ := FInts.slice h1
  obtain ⟨_, _, _, e2⟩ := FInts.slice h2
  obtain ⟨_, _, _, e3⟩ := FInts.slice h3
  obtain ⟨_, _, _, e4⟩ := FInts.slice h4
  obtain ⟨_, _, _, e5⟩ := FInts.slice h5
  obtain ⟨_, _, _, e6⟩ := FInts.slice h6
  obtain ⟨_, _, _, e7⟩ := FRefs.slice h7
  obtain ⟨_, _, _, e8⟩ := FInts.slice h8
  dsimp only at e1 e2 e3 e4 e5 e6 e7 e8
  subst e1 e2 e3 e4 e5 e6 e7 e8
  exact ⟨_, _, _, _, _, _, _, _, _, _, _, _, _, _, _, _, _, _, _, _, _, _, _, _, _, _, _, _, _, _, _, _, _, _, _, _, _, rfl⟩

set_option maxRecDepth 100000 in
set_option maxHeartbeats 4000000 in
theorem end_c (k : Nat) {x : ItemV} {cs : List Value} (hx : ItemR H x cs) (hk : k < st.items.length) (h : RdOK X H w r sv src st) :
    Calls Tryz.prog 75 #[.pointer (some ⟨r, 0, none⟩), .int .i64 (k : Int), .agg cs.toArray] w (Post X w (end_ k x st) (Good rI X H r sv src)) := by
  have HX := Lib.hid hx
  obtain ⟨a0, a1, b2, a3, p4, l4, k4, b5, a6, p7, l7, k7, b8, a9, p10, l10, k10, b11, a12, p13, l13, k13, p14, l14, k14, p15, l15, k15, a16, a17, b18, p19, l19, k19, p20, l20, k20, hcs⟩ := hx.form
  have HCS := Lib.hid hcs
  rw [hcs]
  obtain ⟨v, ic, nc, h⟩ := h
  have HP := Lib.hid h
  obtain ⟨hlen, h2⟩ := h.items
  rcases h2 with ⟨_, h0⟩ | ⟨g, cap, cur, hiv, hb, hg, h4, h5, h6, h7⟩
  · omega
  have HG := Lib.hid hg
  have hgl : g < w.heap.size := lt_of_block hg
  have c17 : w.cell? ⟨r, 17, none⟩ = some (.slice (some ⟨g, 0, none⟩) st.items.length cap) := by rw [← hiv]; exact cell_of_blk h.blk 17
  have hlt := h.lt
  have hcl : k * 21 + 21 ≤ cur.size := by rw [h6]; have : (k + 1) * 21 ≤ cap * 21 := Nat.mul_le_mul_right _ (by omega); omega
  obtain ⟨W, hW⟩ : ∃ W : World, W = (w.alloc (.cells #[.int .i64 a0, .int .i64 a1, .string b2, .int .i64 a3, .slice p4 l4 k4, .string b5, .int .i64 a6, .slice p7 l7 k7, .string b8, .int .i64 a9, .slice p10 l10 k10, .string b11, .int .i64 a12, .slice p13 l13 k13, .slice p14 l14 k14, .slice p15 l15 k15, .int .i64 a16, .int .i64 a17, .string b18, .slice p19 l19 k19, .slice p20 l20 k20] 40)).drew := ⟨_, rfl⟩
  have hg2 : W.heap[g]? = some (.cells cur 40 (0, 0)) := by rw [hW]; exact (heap_alloc_old w _ hgl).trans hg
  have hP2 : RdP X H W r sv src st v ic nc := by rw [hW]; exact h.world (by simp) fun k hk => Below.heap_alloc _ _ _ hk
  have fr2 : Fr X w W := by rw [hW]; exact ((Fr.refl X w).alloc h.xlt _).trans (Fr.drewOn _ _)
  have HC := Lib.hid (show ∀ j, j < 21 → (W.cell? ⟨g, k * 21 + j, none⟩).isSome = true from fun j hj => by
    rw [cell_of_blk (cs := cur.toList) hg2 (k * 21 + j), List.getElem?_eq_getElem (by rw [Array.length_toList]; omega)]; rfl)
  have HQ := Lib.hid (show ∀ j, j < 21 → W.frozen? ⟨g, k * 21 + j, none⟩ = false from fun j _ => free_of_blk hg2 _)
  have hnb : W.heap[w.heap.size]? = some (.cells #[.int .i64 a0, .int .i64 a1, .string b2, .int .i64 a3, .slice p4 l4 k4, .string b5, .int .i64 a6, .slice p7 l7 k7, .string b8, .int .i64 a9, .slice p10 l10 k10, .string b11, .int .i64 a12, .slice p13 l13 k13, .slice p14 l14 k14, .slice p15 l15 k15, .int .i64 a16, .int .i64 a17, .string b18, .slice p19 l19 k19, .slice p20 l20 k20] 40 (0, 0)) := by rw [hW]; exact heap_alloc_new w _
  have HL := Lib.hid (show ∀ (j : Nat) (v : Value), ([.int .i64 a0, .int .i64 a1, .string b2, .int .i64 a3, .slice p4 l4 k4, .string b5, .int .i64 a6, .slice p7 l7 k7, .string b8, .int .i64 a9, .slice p10 l10 k10, .string b11, .int .i64 a12, .slice p13 l13 k13, .slice p14 l14 k14, .slice p15 l15 k15, .int .i64 a16, .int .i64 a17, .string b18, .slice p19 l19 k19, .slice p20 l20 k20] : List Value)[j]? = some v → W.cell? ⟨w.heap.size, 0 + j, none⟩ = some v from fun j v hj => by rw [Nat.zero_add, cell_of_blk (cs := [.int .i64 a0, .int .i64 a1, .string b2, .int .i64 a3, .slice p4 l4 k4, .string b5, .int .i64 a6, .slice p7 l7 k7, .string b8, .int .i64 a9, .slice p10 l10 k10, .string b11, .int .i64 a12, .slice p13 l13 k13, .slice p14 l14 k14, .slice p15 l15 k15, .int .i64 a16, .int .i64 a17, .string b18, .slice p19 l19 k19, .slice p20 l20 k20]) hnb j]; exact hj)
  clear hnb
  have hset := hP2.items_set (x := x) HX.out (by rw [hcs]; rfl) hk hiv hg2 h4 h5 h6 h7 _ rfl
  rw [hcs] at hset
  have HS := Lib.hid hset
  have FR2 := Lib.hid fr2
  have HW := Lib.hid hW
  obtain ⟨i0, hi0, hz0, hz1, hz2⟩ := info_parts infoItem
  have HZ := Lib.hid (show ∀ w, (Go.sizeOf 40).run Tryz.prog w = .ok 21 w from fun w => by simp [sizeOf, typeInfo, hi0, hz1])
  obtain ⟨T, hT⟩ : ∃ T, T = end_ k x st := ⟨_, rfl⟩
  rw [← hT]
  have EQ0 := Lib.hid hT
  clear h hg hiv hset hcl h4 h5 h6 h7 hb hlen hg2 hP2 fr2 hW hi0 hz0 hz1 hz2 hT
  clear hx hcs
  obtain ⟨N, hN⟩ : ∃ N, N = st.items.length := ⟨_, rfl⟩
  rw [← hN] at c17 hk
  have HN := Lib.hid hN
  clear hN
  go_enter Tryz.func75, Tryz.ntmps75
  go_upto_region 1 with (fail)
  refine wp_region_any (by kernel_rfl) ?_
  try (change wpAny _ _ _ _ _ _ _ (World.drew _))
  refine wpAny_take (i := 0) (v := ?_) rfl (by kernel_rfl) (by kernel_rfl) (by kernel_rfl) (fun _ _ _ h => h) (Or.inl ⟨by rfl, by intro w; go_simp; with_reducible rfl⟩) ?_
  refine wpAny_take (i := 1) (v := ?_) rfl (by kernel_rfl) (by kernel_rfl) (by kernel_rfl) (fun _ _ _ h => h) (Or.inl ⟨by rfl, by intro w; go_simp; with_reducible rfl⟩) ?_
  refine wpAny_take (i := 2) (v := ?_) rfl (by kernel_rfl) (by kernel_rfl) (by kernel_rfl) (fun _ _ _ h => h) (Or.inl ⟨by rfl, by intro w; go_simp; with_reducible rfl⟩) ?_
  refine wpAny_take (i := 3) (v := ?_) rfl (by kernel_rfl) (by kernel_rfl) (by kernel_rfl) (fun _ _ _ h => h) (Or.inl ⟨by rfl, by intro w; go_simp; with_reducible rfl⟩) ?_
  refine wpAny_take (i := 5) (v := ?_) rfl (by kernel_rfl) (by kernel_rfl) (by kernel_rfl) (fun _ _ _ h => h) (Or.inl ⟨by rfl, by intro w; go_simp; with_reducible rfl⟩) ?_
  refine wpAny_ready (rs := [4, 6]) (by kernel_rfl) (by simp) ?_
  refine AllReady.cons rfl (fun K hK => ?_) (AllReady.cons rfl (fun K hK => ?_) AllReady.nil)
  · go_simp
    refine hK _ _ ?_
    clear hK K
    refine wpAny_ready (rs := [6]) (by kernel_rfl) (by simp) ?_
    refine AllReady.cons rfl (fun K hK => ?_) AllReady.nil
    refine step_load_cells (by rfl) _ _ (by rfl) w.heap.size 0 (by rfl) [.int .i64 a0, .int .i64 a1, .string b2, .int .i64 a3, .slice p4 l4 k4, .string b5, .int .i64 a6, .slice p7 l7 k7, .string b8, .int .i64 a9, .slice p10 l10 k10, .string b11, .int .i64 a12, .slice p13 l13 k13, .slice p14 l14 k14, .slice p15 l15 k15, .int .i64 a16, .int .i64 a17, .string b18, .slice p19 l19 k19, .slice p20 l20 k20] item_agg HZ.out (by rw [← HW.out]; exact HL.out) ?_
    go_simp
    refine hK _ _ ?_
    clear hK K
    refine wpAny_take (i := 7) (v := ?_) rfl (by kernel_rfl) (by kernel_rfl) (by kernel_rfl) (fun _ _ _ h => h) (Or.inl ⟨by rfl, by intro w; go_simp; with_reducible rfl⟩) ?_
    refine wpAny_ready (rs := [8]) (by kernel_rfl) (by simp) ?_
    refine AllReady.cons rfl (fun K hK => ?_) AllReady.nil
    refine step_store_cells (by rfl) _ _ _ (by rfl) g (k * 21) (by rfl) [.int .i64 a0, .int .i64 a1, .string b2, .int .i64 a3, .slice p4 l4 k4, .string b5, .int .i64 a6, .slice p7 l7 k7, .string b8, .int .i64 a9, .slice p10 l10 k10, .string b11, .int .i64 a12, .slice p13 l13 k13, .slice p14 l14 k14, .slice p15 l15 k15, .int .i64 a16, .int .i64 a17, .string b18, .slice p19 l19 k19, .slice p20 l20 k20] (by rfl) HZ.out (by rw [← HW.out]; exact HC.out) (by rw [← HW.out]; exact HQ.out) (by
      intro u hu
      simp only [List.mem_cons, List.not_mem_nil, or_false] at hu
      rcases hu with rfl | rfl | rfl | rfl | rfl | rfl | rfl | rfl | rfl | rfl | rfl | rfl | rfl | rfl | rfl | rfl | rfl | rfl | rfl | rfl | rfl <;> rfl) ?_
    rw [← HW.out]
    go_simp
    refine hK _ _ ?_
    clear hK K
    refine wpAny_done (by kernel_rfl) ?_ _
    obtain ⟨W2, hW2⟩ : ∃ W2, W2 = W.setCells g (k * 21) [.int .i64 a0, .int .i64 a1, .string b2, .int .i64 a3, .slice p4 l4 k4, .string b5, .int .i64 a6, .slice p7 l7 k7, .string b8, .int .i64 a9, .slice p10 l10 k10, .string b11, .int .i64 a12, .slice p13 l13 k13, .slice p14 l14 k14, .slice p15 l15 k15, .int .i64 a16, .int .i64 a17, .string b18, .slice p19 l19 k19, .slice p20 l20 k20] := ⟨_, rfl⟩
    have HS2 := HS.out
    rw [← hW2] at HS2 ⊢
    have HS3 := Lib.hid HS2
    clear HS2 hW2
    go_wp2_with fail
    go_ret
    exact Post.ok (EQ0.out.trans rfl) ⟨H, Le.refl H, ⟨_, _, _, HS3.out.1⟩, rfl⟩ (FR2.out.trans HS3.out.2)
  · refine step_load_cells (by rfl) _ _ (by rfl) w.heap.size 0 (by rfl) [.int .i64 a0, .int .i64 a1, .string b2, .int .i64 a3, .slice p4 l4 k4, .string b5, .int .i64 a6, .slice p7 l7 k7, .string b8, .int .i64 a9, .slice p10 l10 k10, .string b11, .int .i64 a12, .slice p13 l13 k13, .slice p14 l14 k14, .slice p15 l15 k15, .int .i64 a16, .int .i64 a17, .string b18, .slice p19 l19 k19, .slice p20 l20 k20] item_agg HZ.out (by rw [← HW.out]; exact HL.out) ?_
    go_simp
    refine hK _ _ ?_
    clear hK K
    refine wpAny_ready (rs := [4]) (by kernel_rfl) (by simp) ?_
    refine AllReady.cons rfl (fun K hK => ?_) AllReady.nil
    go_simp
    refine hK _ _ ?_
    clear hK K
    refine wpAny_take (i := 7) (v := ?_) rfl (by kernel_rfl) (by kernel_rfl) (by kernel_rfl) (fun _ _ _ h => h) (Or.inl ⟨by rfl, by intro w; go_simp; with_reducible rfl⟩) ?_
    refine wpAny_ready (rs := [8]) (by kernel_rfl) (by simp) ?_
    refine AllReady.cons rfl (fun K hK => ?_) AllReady.nil
    refine step_store_cells (by rfl) _ _ _ (by rfl) g (k * 21) (by rfl) [.int .i64 a0, .int .i64 a1, .string b2, .int .i64 a3, .slice p4 l4 k4, .string b5, .int .i64 a6, .slice p7 l7 k7, .string b8, .int .i64 a9, .slice p10 l10 k10, .string b11, .int .i64 a12, .slice p13 l13 k13, .slice p14 l14 k14, .slice p15 l15 k15, .int .i64 a16, .int .i64 a17, .string b18, .slice p19 l19 k19, .slice p20 l20 k20] (by rfl) HZ.out (by rw [← HW.out]; exact HC.out) (by rw [← HW.out]; exact HQ.out) (by
      intro u hu
      simp only [List.mem_cons, List.not_mem_nil, or_false] at hu
      rcases hu with rfl | rfl | rfl | rfl | rfl | rfl | rfl | rfl | rfl | rfl | rfl | rfl | rfl | rfl | rfl | rfl | rfl | rfl | rfl | rfl | rfl <;> rfl) ?_
    rw [← HW.out]
    go_simp
    refine hK _ _ ?_
    clear hK K
    refine wpAny_done (by kernel_rfl) ?_ _
    obtain ⟨W2, hW2⟩ : ∃ W2, W2 = W.setCells g (k * 21) [.int .i64 a0, .int .i64 a1, .string b2, .int .i64 a3, .slice p4 l4 k4, .string b5, .int .i64 a6, .slice p7 l7 k7, .string b8, .int .i64 a9, .slice p10 l10 k10, .string b11, .int .i64 a12, .slice p13 l13 k13, .slice p14 l14 k14, .slice p15 l15 k15, .int .i64 a16, .int .i64 a17, .string b18, .slice p19 l19 k19, .slice p20 l20 k20] := ⟨_, rfl⟩
    have HS2 := HS.out
    rw [← hW2] at HS2 ⊢
    have HS3 := Lib.hid HS2
    clear HS2 hW2
    go_wp2_with fail
    go_ret
    exact Post.ok (EQ0.out.trans rfl) ⟨H, Le.refl H, ⟨_, _, _, HS3.out.1⟩, rfl⟩ (FR2.out.trans HS3.out.2)
end
end Go.Proofs.YtkaeceedofmhbaaGreatDoor
