/-
  syntax: only, by inner and the readers (UNDER WAY).
-/
import Derived.Test.YtkaeceedofmhbaaGreatDoorGBlk3
import Derived.Test.YtkaeceedofmhbaaGreatDoorGPKeep
namespace Go.Proofs.YtkaeceedofmhbaaGreatDoor
open Go.RowKit Bk
attribute [local go_sem ↓] Go.wp_at_zero Go.wp_at_succ

theorem read_bodied (rd : Rd) : (match Tryz.prog.funcs[readFn rd]? with | some fn => !(fn.name == "runtime.NumGoroutine") && !fn.body.isNone | none => false) = true := by cases rd <;> kernel_rfl
theorem read_enter (rd : Rd) (args : Array Value) (w : World) : (callFunc (readFn rd) args).run Tryz.prog w = .ok (.enter (readFn rd) args) w := by
  have h := read_bodied rd
  generalize hf : Tryz.prog.funcs[readFn rd]? = o at h
  cases o with
  | none => cases h
  | some fn =>
    simp only [Bool.and_eq_true, Bool.not_eq_true'] at h
    exact enter_of hf h.1 h.2 args w

theorem itemSize : ∀ w, (Go.sizeOf 40).run Tryz.prog w = .ok 21 w := fun w => by
  obtain ⟨i0, hi0, hz0, hz1, hz2⟩ := info_parts infoItem
  simp [sizeOf, typeInfo, hi0, hz1]
theorem declInfo : (Tryz.prog.info? 114).map (·.size) = some 3 := by kernel_rfl
theorem declSize : ∀ w, (Go.sizeOf 114).run Tryz.prog w = .ok 3 w := fun w => by
  have h := declInfo
  cases hi : Tryz.prog.info? 114 with
  | none => rw [hi] at h; cases h
  | some i => rw [hi] at h; simp only [Option.map_some, Option.some.injEq] at h; simp [sizeOf, typeInfo, hi, h]
theorem decl_agg : ∀ w, (isAgg 114).run Tryz.prog w = .ok true w := by
  have h : (match Tryz.prog.underlying 114 with | some (.struct _) => true | _ => false) = true := by kernel_rfl
  generalize hu : Tryz.prog.underlying 114 = u at h
  match u, h with
  | some (.struct fs), _ => exact agg_of hu
theorem setCells_decl (w : World) (z : Array Value) (cs : List Value) (hz : z.size = cs.length) (hc : cs.length = 3) (h1 : ∀ v ∈ cs, v.oneCell' = true) :
    (w.alloc (.cells z 114)).setCells w.heap.size 0 cs = w.alloc (.cells cs.toArray 114) := by
  have hb : (w.alloc (.cells z 114)).heap[w.heap.size]? = some (.cells z.toList.toArray 114 (0, 0)) := heap_alloc_new w _
  have a := run_storeCells_cells (P := Tryz.prog) w.heap.size 0 cs 0 (w.alloc (.cells z 114)) (fun j hj => by
    rw [cell_of_blk hb, List.getElem?_eq_getElem (by rw [Array.length_toList]; omega)]; rfl) (fun j _ => free_of_blk hb _) h1
  have b := run_storeCells_new (P := Tryz.prog) w 114 z cs.toArray (by rw [declInfo]; simp [hc]) (by simpa using hz) (by simpa using h1)
  rw [show cs.toArray.toList = cs by simp, a] at b
  injection b

/-- What inner hands back. -/
def rOpt : Frozen → Option Int → Value → Prop := fun _ o v => v = match o with | some k => .tuple #[.int .i64 k, .bool true] | none => .tuple #[.int .i64 0, .bool false]
def InnerC (n : Nat) (u : Rule) : Prop := ∀ (X : Nat → Prop) (H : Frozen) (r : Nat) (sv : Value) (src : Bytes) (st : St) (w : World), RdOK X H w r sv src st → inner src n u st ≠ .bad .fuel →
  Calls Tryz.prog 76 #[.pointer (some ⟨r, 0, none⟩), .func (Fn.func (ruleFn u)) #[.pointer (some ⟨r, 0, none⟩)] #[]] w (Post X w (inner src n u st) (Good rOpt X H r sv src))
/-- The table of declarations, in memory. -/
def declCells (r : Nat) (d : Int × Int × Rd) : List Value := [.int .i64 d.1, .int .i64 d.2.1, .func (Fn.func (readFn d.2.2)) #[.pointer (some ⟨r, 0, none⟩)] #[]]
def TableAt (w : World) (g r : Nat) (ds : List (Int × Int × Rd)) : Prop := ∀ (j : Nat) (d : Int × Int × Rd), ds[j]? = some d → ∀ (i : Nat) (v : Value), (declCells r d)[i]? = some v → w.cell? ⟨g, j * 3 + i, none⟩ = some v

section
variable {X : Nat → Prop} {H : Frozen} {r : Nat} {sv : Value} {src : Bytes} {st : St} {w w1 : World}

theorem one_not_own {n : Nat} {u : Rule} (hu : u ≠ .own) : one src (n + 1) u = M.bind (inner src n u) (fun o => match o with | some k => pure k | none => declOn src (fun rd x => Bk.read src n rd x) (decls u)) := by
  rw [one, if_neg hu]; rfl

set_option maxRecDepth 100000 in
set_option maxHeartbeats 4000000 in
theorem only_c (n g : Nat) (u : Rule) (hu : u ≠ .own) (hi : InnerC n u) (hr : ∀ rd, ReadC n rd) (hg : X g) (ht : TableAt w g r (decls u)) (h : RdOK X H w r sv src st) (hf : one src (n + 1) u st ≠ .bad .fuel) :
    Calls Tryz.prog 167 #[.pointer (some ⟨r, 0, none⟩), .func (Fn.func (ruleFn u)) #[.pointer (some ⟨r, 0, none⟩)] #[], .slice (some ⟨g, 0, none⟩) (decls u).length (decls u).length] w (Post X w (one src (n + 1) u st) (Good rI X H r sv src)) := by
  obtain ⟨T, hT⟩ : ∃ T, T = one src (n + 1) u st := ⟨_, rfl⟩
  rw [← hT]
  have FU := Lib.hid (show T ≠ .bad .fuel by rw [hT]; exact hf)
  rw [one_not_own hu] at hT
  have EQ0 := Lib.hid hT
  have NX := Lib.hid next_c
  have FL := Lib.hid fail_c
  have RD0 := Lib.hid h
  have HR := Lib.hid hr
  have HT := Lib.hid ht
  have HG := Lib.hid hg
  have HI := Lib.hid (hi _ _ _ _ _ _ w h (fun e => FU.out (EQ0.out.trans (bind_bad e))))
  obtain ⟨fu, hfu⟩ : ∃ f, f = ruleFn u := ⟨_, rfl⟩
  rw [← hfu] at HI ⊢
  obtain ⟨ds, hds⟩ : ∃ ds, ds = decls u := ⟨_, rfl⟩
  rw [← hds] at HT EQ0 ⊢
  obtain ⟨N, hN⟩ : ∃ N, N = ds.length := ⟨_, rfl⟩
  rw [← hN]
  have HN := Lib.hid hN
  have HNL := Lib.hid (show N ≤ 14 by rw [hN, hds]; cases u <;> decide)
  clear h hf hT hi hr hg ht hfu hds hu hN
  go_enter Tryz.func167, Tryz.ntmps167
  go_wp2_with fail
  refine HI.out.mono ?_
  intro e w1 hp
  rcases hp.elimG with ⟨o, st1, v1, H1, hr, rfl, le, hR, hv, hfr⟩ | ⟨p, why, hr, rfl, hfr⟩
  rotate_left
  · have EQp := Lib.hid (EQ0.out.trans (bind_bad hr))
    have FRp := Lib.hid hfr
    clear hfr hr hp
    go_wp2_with fail
    exact ⟨rfl, Post.stop EQp.out FRp.out⟩
  have EQ1 := Lib.hid (EQ0.out.trans (bind_ok hr))
  have RD1 := Lib.hid hR
  have FR1 := Lib.hid hfr
  have LE1 := Lib.hid le
  clear hr hp hR hfr le
  cases o with
  | some k =>
    obtain rfl : v1 = .tuple #[.int .i64 k, .bool true] := hv
    have FIN := Lib.hid (show Post X w T (Good rI X H r sv src) (.returned (.int .i64 k)) w1 from Post.ok (EQ1.out.trans rfl) ⟨H1, LE1.out, RD1.out, rfl⟩ FR1.out)
    go_wp2_with fail
    go_ret
    exact FIN.out
  | none =>
    obtain rfl : v1 = .tuple #[.int .i64 0, .bool false] := hv
    have EQ2 := Lib.hid (show T = declOn src (fun rd x => Bk.read src n rd x) (ds.drop 0) st1 from EQ1.out)
    go_wp2_with fail
    go_loopg [23] (N + 1) (fun g' s23 wr => ∃ (j : Nat) (stj : St) (Hj : Frozen), j ≤ N ∧ N < g' + j ∧ s23 = .int .i64 (j : Int) ∧ Hid (RdOK X Hj wr r sv src stj ∧ Fr X w wr ∧ Le H Hj ∧ T = declOn src (fun rd x => Bk.read src n rd x) (ds.drop j) stj))
    case atStart => exact ⟨0, st1, H1, by omega, by omega, rfl, Lib.hid ⟨RD1.out, FR1.out, LE1.out, EQ2.out⟩⟩
    case round =>
      obtain ⟨j, st2, H2, hjN, hjg, rfl, hrel⟩ := hrel
      obtain ⟨hR, hF, hL, hE⟩ := hrel.out
      have RD2 := Lib.hid hR
      have FR2 := Lib.hid hF
      have LE2 := Lib.hid hL
      have EQ3 := Lib.hid hE
      clear hrel hR hF hL hE
      by_cases hj : j < N
      · have hjd : j < ds.length := by have := HN.out; omega
        obtain ⟨⟨kw, kd, rd⟩, hd⟩ : ∃ d, ds[j]? = some d := ⟨_, List.getElem?_eq_getElem hjd⟩
        have hgw : wr.heap[g]? = w.heap[g]? := FR2.out.block g HG.out
        have t0 : wr.cell? ⟨g, j * 3, none⟩ = some (.int .i64 kw) := (World.cell?_of_block (w := w) (a := ⟨g, j * 3, none⟩) hgw).trans (HT.out j _ hd 0 _ rfl)
        have t1 : wr.cell? ⟨g, j * 3 + 1, none⟩ = some (.int .i64 kd) := (World.cell?_of_block (w := w) (a := ⟨g, j * 3 + 1, none⟩) hgw).trans (HT.out j _ hd 1 _ rfl)
        obtain ⟨fr, hfr⟩ : ∃ f, f = readFn rd := ⟨_, rfl⟩
        have t2 : wr.cell? ⟨g, j * 3 + 2, none⟩ = some (.func (Fn.func fr) #[.pointer (some ⟨r, 0, none⟩)] #[]) := by rw [hfr]; exact (World.cell?_of_block (w := w) (a := ⟨g, j * 3 + 2, none⟩) hgw).trans (HT.out j _ hd 2 _ rfl)
        have HFR := Lib.hid hfr
        have hdr : ds.drop j = (kw, kd, rd) :: ds.drop (j + 1) := by
          rw [List.drop_eq_getElem_cons hjd]; congr 1
          rw [List.getElem?_eq_getElem hjd] at hd; exact Option.some.inj hd
        have EQ4 := Lib.hid (show T = M.bind (see kw) (fun q => if q = true then (do let i ← begin_ src kd; let x ← row i; let x ← Bk.read src n rd x; end_ i x : M Int) else declOn src (fun rd x => Bk.read src n rd x) (ds.drop (j + 1))) st2 by rw [EQ3.out, hdr, declOn]; rfl)
        clear hfr hd hgw hdr hjd
        go_upto_region 6 with (fail)
        refine wp_region_lit ?_
        iterate 3
          refine wpList_step (fun K hK => ?_)
          go_simp
          refine hK _ _ ?_
          clear hK K
        refine wpList_step (fun K hK => ?_)
        refine step_store_cells (by rfl) _ _ _ (by rfl) wr.heap.size 0 (by rfl) [.int .i64 kw, .int .i64 kd, .func (Fn.func fr) #[.pointer (some ⟨r, 0, none⟩)] #[]] (by rfl) declSize ?_ ?_ (by
          intro u hu
          simp only [List.mem_cons, List.not_mem_nil, or_false] at hu
          rcases hu with rfl | rfl | rfl <;> rfl) ?_
        · intro j hj
          rw [Nat.zero_add, cell_of_blk (heap_alloc_new wr _) j, List.getElem?_eq_getElem (by simpa using hj)]; rfl
        · intro j _
          exact free_of_blk (heap_alloc_new wr _) _
        rw [setCells_decl wr _ [.int .i64 kw, .int .i64 kd, .func (Fn.func fr) #[.pointer (some ⟨r, 0, none⟩)] #[]] (by rfl) rfl (by
          intro u hu
          simp only [List.mem_cons, List.not_mem_nil, or_false] at hu
          rcases hu with rfl | rfl | rfl <;> rfl)]
        go_simp
        refine hK _ _ ?_
        clear hK K
        refine wpList_nil ?_
        obtain ⟨o3, ho3⟩ : ∃ o3 : Obj, o3 = .cells #[.int .i64 kw, .int .i64 kd, .func (Fn.func fr) #[.pointer (some ⟨r, 0, none⟩)] #[]] 114 := ⟨_, rfl⟩
        rw [← ho3]
        obtain ⟨w3, hw3⟩ : ∃ w3, w3 = wr.alloc o3 := ⟨_, rfl⟩
        have hbel : Below wr.heap.size wr w3 := by rw [hw3]; exact (Below.refl _ _).alloc (Nat.le_refl _) _
        have hblk : w3.heap[wr.heap.size]? = some o3 := by rw [hw3]; exact heap_alloc_new wr _
        rw [ho3] at hblk
        have hsz : w3.heap.size = wr.heap.size + 1 := by rw [hw3]; simp
        have RD3' := RD2.out.fence hbel
        have FW3 := Lib.hid (show Fr X wr w3 by rw [hw3]; exact (Fr.refl X wr).alloc RD2.out.xlt _)
        rw [← hw3]
        obtain ⟨B, hB⟩ : ∃ B, B = wr.heap.size := ⟨_, rfl⟩
        rw [← hB] at hblk RD3' hsz ⊢
        obtain ⟨X1, hX1⟩ : ∃ X1, X1 = Fence X B w3.heap.size := ⟨_, rfl⟩
        rw [← hX1] at RD3'
        have hx1 : ∀ k, X k → X1 k := fun k hk => by rw [hX1]; exact .inl hk
        have hxB : X1 B := by rw [hX1]; exact .inr ⟨Nat.le_refl _, by omega⟩
        have RD3 := Lib.hid RD3'
        have HX1 := Lib.hid hx1
        have HXB := Lib.hid hxB
        have HB := Lib.hid hB
        have HBLK := Lib.hid hblk
        have d0 : w3.cell? ⟨B, 0, none⟩ = some (.int .i64 kw) := cell_of_blk (cs := [.int .i64 kw, .int .i64 kd, .func (Fn.func fr) #[.pointer (some ⟨r, 0, none⟩)] #[]]) hblk 0
        clear hbel hblk hsz RD3' hw3 ho3 hB hX1 hx1 hxB t0 t1 t2
        go_wp2_with fail
        refine (see_g kw RD3.out (fun e => FU.out (EQ4.out.trans (bind_bad e)))).mono ?_
        intro e w4 hp
        rcases hp.elimG with ⟨q, st4, v4, H4, hr, rfl, le, hR, hv, hfr⟩ | ⟨p, why, hr, rfl, hfr⟩
        rotate_left
        · have EQp := Lib.hid (EQ4.out.trans (bind_bad hr))
          have FRp := Lib.hid (FR2.out.trans (FW3.out.trans (hfr.mono HX1.out)))
          clear hfr hr hp
          go_wp2_with fail
          exact ⟨rfl, Post.stop EQp.out FRp.out⟩
        obtain rfl : v4 = .bool q := hv
        have RD4 := Lib.hid hR
        have FW4 := Lib.hid (FW3.out.trans (hfr.mono HX1.out))
        have LE4 := Lib.hid (LE2.out.trans le)
        have EQ5 := Lib.hid (EQ4.out.trans (bind_ok hr))
        have HBL4 := Lib.hid (show w4.heap[B]? = _ from (hfr.block B HXB.out).trans HBLK.out)
        clear hfr hr hp hR le d0
        cases q with
        | false =>
          have EQ6 := Lib.hid (show T = declOn src (fun rd x => Bk.read src n rd x) (ds.drop (j + 1)) st4 from EQ5.out)
          have RDX := Lib.hid (RD4.out.back (RD2.out.txt.keep FW4.out.block) RD2.out.gx HX1.out)
          have e1 : IntKind.i64.wrap ((j : Int) + 1) = (j : Int) + 1 := IntWalk.i64_in _ ⟨by omega, by have := HNL.out; omega⟩
          go_wp2_with fail
          go_roundg (N - j)
          case measure => omega
          case rel => exact ⟨j + 1, st4, H4, by omega, by omega, by simp, Lib.hid ⟨RDX.out, FR2.out.trans FW4.out, LE4.out, EQ6.out⟩⟩
        | true =>
          have EQ6 := Lib.hid (show T = M.bind (begin_ src kd) (fun i => M.bind (row i) (fun x => M.bind (Bk.read src n rd x) (fun x => end_ i x))) st4 from EQ5.out)
          have d1 : w4.cell? ⟨B, 1, none⟩ = some (.int .i64 kd) := cell_of_blk (cs := [.int .i64 kw, .int .i64 kd, .func (Fn.func fr) #[.pointer (some ⟨r, 0, none⟩)] #[]]) HBL4.out 1
          go_wp2_with fail
          refine (begin_c kd RD4.out (fun e => FU.out (EQ6.out.trans (bind_bad e)))).mono ?_
          intro e w5 hp
          rcases hp.elimG with ⟨k, st5, v5, H5, hr, rfl, le, hR, hv, hfr⟩ | ⟨p, why, hr, rfl, hfr⟩
          rotate_left
          · have EQp := Lib.hid (EQ6.out.trans (bind_bad hr))
            have FRp := Lib.hid (FR2.out.trans (FW4.out.trans (hfr.mono HX1.out)))
            clear hfr hr hp
            go_wp2_with fail
            exact ⟨rfl, Post.stop EQp.out FRp.out⟩
          obtain rfl : v5 = .int .i64 (k : Int) := hv
          obtain ⟨hk, hit⟩ := begin_row hr
          have hkx : st5.items[k]? = some { kind := kd, pos := st4.at_ } := by rw [hit, hk]; simp
          obtain ⟨g5, cap, cs, c17, hx, hcl, hc⟩ := hR.item_at hkx
          obtain ⟨N5, hN5⟩ : ∃ N5, N5 = st5.items.length := ⟨_, rfl⟩
          rw [← hN5] at c17
          have hkN : k < N5 := by rw [hN5, hit, hk]; simp
          have HKN := Lib.hid (show k < st5.items.length by rw [← hN5]; exact hkN)
          have EQ7 := Lib.hid (EQ6.out.trans (bind_ok hr))
          have RD5 := Lib.hid hR
          have FW5 := Lib.hid (FW4.out.trans (hfr.mono HX1.out))
          have LE5 := Lib.hid (LE4.out.trans le)
          have HBL5 := Lib.hid (show w5.heap[B]? = _ from (hfr.block B HXB.out).trans HBL4.out)
          have HX := Lib.hid hx
          have HCL := Lib.hid hcl
          have HC := Lib.hid hc
          have HKX := Lib.hid hkx
          clear hr hp hR hfr le hN5 hx hcl hc hkx hk hit d1
          go_upto_region 9 with (fail)
          refine wp_region_lit ?_
          iterate 7
            refine wpList_step (fun K hK => ?_)
            go_simp
            refine hK _ _ ?_
            clear hK K
          refine wpList_step (fun K hK => ?_)
          refine step_load_cells (by rfl) _ _ (by rfl) g5 (k * 21) (by rfl) cs item_agg (by rw [HCL.out]; exact itemSize) HC.out ?_
          refine hK _ _ ?_
          clear hK K
          refine wpList_step (fun K hK => ?_)
          go_simp
          refine hK _ _ ?_
          clear hK K
          refine wpList_step (fun K hK => ?_)
          refine step_store_cells (by rfl) _ _ _ (by rfl) w5.heap.size 0 (by rfl) cs (by rfl) (by rw [HCL.out]; exact itemSize) ?_ ?_ HX.out.one ?_
          · intro j hj
            rw [HCL.out] at hj
            rw [Nat.zero_add, cell_of_blk (heap_alloc_new w5 _) j, List.getElem?_eq_getElem (by simpa using hj)]; rfl
          · intro j _
            exact free_of_blk (heap_alloc_new w5 _) _
          rw [setCells_new w5 _ cs (by rw [HCL.out]; rfl) HCL.out HX.out.one]
          go_simp
          refine hK _ _ ?_
          clear hK K
          refine wpList_nil ?_
          obtain ⟨s6, hs, hI, hfr⟩ := ItP.start RD5.out HX.out rfl ⟨Int.le_refl 0, by show (0 : Int) < _; decide⟩
          have IP6 := Lib.hid hI
          have FW6 := Lib.hid (FW5.out.trans (hfr.mono HX1.out))
          have HBL6 := Lib.hid ((hfr.block B HXB.out).trans HBL5.out)
          obtain ⟨x6, hx6⟩ : ∃ x6 : ItemV, x6 = { kind := kd, pos := st4.at_ } := ⟨_, rfl⟩
          rw [← hx6] at IP6
          obtain ⟨w6, hw⟩ : ∃ w6, w6 = w5.alloc (.cells cs.toArray 40) := ⟨_, rfl⟩
          rw [← hw] at IP6 FW6 HBL6 ⊢
          obtain ⟨b, hb⟩ : ∃ b, b = w5.heap.size := ⟨_, rfl⟩
          rw [← hb] at IP6 ⊢
          have EQ8 := Lib.hid (show T = M.bind (Bk.read src n rd x6) (fun x => end_ k x) st5 from EQ7.out.trans (bind_ok (show row k st5 = .ok x6 st5 by unfold row; rw [List.getD_eq_getElem?_getD, HKX.out, hx6]; rfl)))
          have d2 : w6.cell? ⟨B, 2, none⟩ = some (.func (Fn.func fr) #[.pointer (some ⟨r, 0, none⟩)] #[]) := cell_of_blk (cs := [.int .i64 kw, .int .i64 kd, .func (Fn.func fr) #[.pointer (some ⟨r, 0, none⟩)] #[]]) HBL6.out 2
          clear hs hI hfr hx6 hw hb
          have HC6 := Lib.hid (HR.out rd _ _ _ _ _ _ w6 b x6 ⟨_, IP6.out⟩ (fun e => FU.out (EQ8.out.trans (bind_bad e))))
          rw [← HFR.out] at HC6
          have hcf : ∀ w, (callFunc fr #[.pointer (some ⟨r, 0, none⟩), .pointer (some ⟨b, 0, none⟩)]).run Tryz.prog w = .ok (.enter fr #[.pointer (some ⟨r, 0, none⟩), .pointer (some ⟨b, 0, none⟩)]) w := fun w => by rw [HFR.out]; exact read_enter rd _ w
          go_wp2_with fail
          clear hcf
          refine HC6.out.mono ?_
          intro e w7 hp
          rcases hp.elimI with ⟨x7, st7, v7, H7, y7, hr, rfl, le, ⟨s7, hI⟩, hv, hfr⟩ | ⟨p, why, hr, rfl, hfr⟩
          rotate_left
          · have EQp := Lib.hid (EQ8.out.trans (bind_bad hr))
            have FRp := Lib.hid (FR2.out.trans (FW6.out.trans (hfr.mono HX1.out)))
            clear hfr hr hp
            go_wp2_with fail
            exact ⟨rfl, Post.stop EQp.out FRp.out⟩
          obtain ⟨hv1, hv2⟩ := hv
          obtain rfl : x7 = y7 := hv1
          obtain rfl : v7 = .tuple #[] := hv2
          have HK7 := Lib.hid (Nat.lt_of_lt_of_le HKN.out ((keep_all n).2.2.2.2.2 rd x6 _ _ _ hr))
          have EQ9 := Lib.hid (show T = end_ k x7 st7 from EQ8.out.trans (bind_ok hr))
          obtain ⟨H8, hle, hR8, hxR⟩ := hI.done
          have FW7 := Lib.hid (FW6.out.trans (hfr.mono HX1.out))
          have LE8 := Lib.hid ((LE5.out.trans le).trans hle)
          have RD8 := Lib.hid hR8
          have HXR := Lib.hid hxR
          obtain ⟨c7, hc7⟩ : ∃ c7, c7 = itemCells x7 s7 := ⟨_, rfl⟩
          rw [← hc7] at HXR
          have HC7 := Lib.hid (show ∀ (j : Nat) (v : Value), c7[j]? = some v → w7.cell? ⟨b, 0 + j, none⟩ = some v from fun j v hj => by rw [Nat.zero_add, cell_of_blk hI.blk, ← hc7]; exact hj)
          have HL7 := Lib.hid (show c7.length = 21 by rw [hc7]; rfl)
          clear hr hp hI le hfr hle hR8 hxR hc7 d2
          go_upto_region 11 with (fail)
          refine wp_region_lit ?_
          iterate 2
            refine wpList_step (fun K hK => ?_)
            go_simp
            refine hK _ _ ?_
            clear hK K
          refine wpList_step (fun K hK => ?_)
          refine step_load_cells (by rfl) _ _ (by rfl) b 0 (by rfl) c7 item_agg (by rw [HL7.out]; exact itemSize) HC7.out ?_
          refine hK _ _ ?_
          clear hK K
          go_wp2_with fail
          refine (end_c k HXR.out HK7.out RD8.out).mono ?_
          intro e w9 hp
          rcases hp.elimG with ⟨k9, st9, v9, H9, hr, rfl, le, hR, hv, hfr⟩ | ⟨p, why, hr, rfl, hfr⟩
          rotate_left
          · have EQp := Lib.hid (EQ9.out.trans hr)
            have FRp := Lib.hid (FR2.out.trans (FW7.out.trans (hfr.mono HX1.out)))
            clear hfr hr hp
            go_wp2_with fail
            exact ⟨rfl, Post.stop EQp.out FRp.out⟩
          obtain rfl : v9 = .int .i64 k9 := hv
          have FW9 := FW7.out.trans (hfr.mono HX1.out)
          have FIN := Lib.hid (show Post X w T (Good rI X H r sv src) (.returned (.int .i64 k9)) w9 from Post.ok (EQ9.out.trans hr) ⟨H9, LE8.out.trans le, hR.back (RD2.out.txt.keep FW9.block) RD2.out.gx HX1.out, rfl⟩ (FR2.out.trans FW9))
          clear hfr hr hp hR le FW9
          go_wp2_with fail
          go_ret
          exact FIN.out
      · have EQ4 := Lib.hid (show T = .bad (.stop (st2.at_ + failAt src st2) 60) by rw [EQ3.out, List.drop_eq_nil_of_le (by have := HN.out; omega), declOn]; rfl)
        go_wp2_with fail
        refine (FL.out _ _ _ _ _ _ _ RD2.out).mono ?_
        rintro e w3 ⟨rfl, hfr⟩
        have FIN := Lib.hid (FR2.out.trans hfr)
        clear hfr
        go_wp2_with fail
        exact ⟨rfl, Post.stop EQ4.out FIN.out⟩
end
end Go.Proofs.YtkaeceedofmhbaaGreatDoor
