/-
  The reader's rows of nodes and items: one more; one laid anew.
  syntax: node.
  syntax: rank.
  syntax: spelled, goes.
-/
import Derived.Test.YtkaeceedofmhbaaGreatDoorGSy3
import Derived.Deep.AppendLies
import Derived.Deep.RegionLaw
import Derived.Deep.DrawnRows
import Derived.Test.YtkaeceedofmhbaaGreatDoorGSc22
namespace Go.Proofs.YtkaeceedofmhbaaGreatDoor
open Go.RowKit Bk

def nodeCells (x : NodeV) (kv : Value) : List Value := [.int .i64 x.op, .int .u64 x.n, str x.s, kv, .int .i64 x.at_]

section
variable {X : Nat → Prop} {H : Frozen} {w w1 : World} {r : Nat} {sv : Value} {src : Bytes} {st : St} {v : RdS} {ic nc : List Value} {v' : Value}

theorem RdP.new_block (h : RdP X H w r sv src st v ic nc) {o : Option Nat} (ho : ∀ k, o = some k → ¬ X k ∧ H k = none ∧ k ≠ r) (hat : v'.ownBlock = o ∨ ∃ K, w.heap.size ≤ K ∧ v'.ownBlock = some K) :
    (∀ k, v'.ownBlock = some k → ¬ X k ∧ H k = none) ∧ v'.ownBlock ≠ some r := by
  have hlt := h.lt
  have new : ∀ k, v'.ownBlock = some k → ¬ X k ∧ H k = none ∧ k ≠ r := by
    intro k hk
    rcases hat with e | ⟨K, hK, e⟩
    · rw [e] at hk; exact ho k hk
    · rw [e] at hk
      obtain rfl : K = k := by simpa using hk
      refine ⟨fun hx => ?_, ?_, by omega⟩
      · have := h.xlt _ hx; omega
      · cases hc : H K with
        | none => rfl
        | some c => have := h.heap.lt hc; omega
  exact ⟨fun k hk => ⟨(new k hk).1, (new k hk).2.1⟩, fun e => (new r e).2.2 rfl⟩

theorem RdP.nodes_append {x : NodeV} {kv : Value} (h : RdP X H w r sv src st v ic nc) (hk : FInts H kv x.kids) (hg : w.grownBy w1 v.nv.ownBlock)
    (ho : w1.ownsRow 0 37 5 v' (st.nodes.length + 1) (nc ++ nodeCells x kv)) (hat : v'.ownBlock = v.nv.ownBlock ∨ ∃ K, w.heap.size ≤ K ∧ v'.ownBlock = some K) :
    RdP X H (w1.setCell ⟨r, 18, none⟩ v') r sv src { st with nodes := st.nodes ++ [x] } { v with nv := v' } ic (nc ++ nodeCells x kv) ∧ Fr X w (w1.setCell ⟨r, 18, none⟩ v') := by
  have hs : w.heap.size ≤ (w1.setCell ⟨r, 18, none⟩ v').heap.size := by have := hg.size; simpa [World.setCell] using this
  have hb : ∀ k, k < w.heap.size → k ≠ r → v.nv.ownBlock ≠ some k → (w1.setCell ⟨r, 18, none⟩ v').heap[k]? = w.heap[k]? := fun k hk h1 h2 =>
    (Below.heap_setCell _ _ _ _ h1).trans (hg.block k hk (fun e => h2 e.symm))
  have bs : Beside w (w1.setCell ⟨r, 18, none⟩ v') r v := fun k hk h1 _ _ h2 => hb k hk h1 h2
  have hr1 : w1.heap[r]? = w.heap[r]? := hg.block r h.lt (fun e => h.r_ne_n e.symm)
  obtain ⟨new, hnr⟩ := h.new_block (v' := v') (o := v.nv.ownBlock) (fun k hk => ⟨h.xn k hk, h.hn k hk, fun e => h.r_ne_n (by rw [← e]; exact hk)⟩) hat
  refine ⟨⟨?_, ?_, ?_, h.irel, ?_, h.nrel.snoc ⟨kv, rfl, hk⟩, h.trel, h.xr, h.xw, h.xi, fun k hk => (new k hk).1, h.hr, h.hw, h.hi, fun k hk => (new k hk).2, h.heap.keep (h.beside_h bs), fun k hk => Nat.lt_of_lt_of_le (h.xlt k hk) hs, h.xh, h.txt.keep (h.beside_x bs), h.slen, h.ato, h.tol, h.badl, h.openl, h.glob.keep fun k hk => h.beside_x bs k (h.gx k hk), h.gx⟩, ?_⟩
  · have := blk_set (w := w1) (by rw [hr1]; exact h.blk) 18 v'
    simpa [rdCells] using this
  · exact ownsRow_block h.want fun k hk => hb k (h.want.lt k hk).2 (fun e => h.r_ne_w (e ▸ hk)) (fun e => h.w_ne_n hk e)
  · exact ownsRow_block h.items fun k hk => hb k (h.items.lt k hk).2 (fun e => h.r_ne_i (e ▸ hk)) (fun e => h.i_ne_n hk e)
  · simpa using ownsRow_setCell_other ho (a := ⟨r, 18, none⟩) hnr v'
  · exact ⟨hg.os, hg.tape, hg.output, hs, h.beside_x bs⟩

theorem RdP.items_append {x : ItemV} {cs : List Value} (h : RdP X H w r sv src st v ic nc) (hk : ItemR H x cs) (hg : w.grownBy w1 v.iv.ownBlock)
    (ho : w1.ownsRow 0 40 21 v' (st.items.length + 1) (ic ++ cs)) (hat : v'.ownBlock = v.iv.ownBlock ∨ ∃ K, w.heap.size ≤ K ∧ v'.ownBlock = some K) :
    RdP X H (w1.setCell ⟨r, 17, none⟩ v') r sv src { st with items := st.items ++ [x] } { v with iv := v' } (ic ++ cs) nc ∧ Fr X w (w1.setCell ⟨r, 17, none⟩ v') := by
  have hs : w.heap.size ≤ (w1.setCell ⟨r, 17, none⟩ v').heap.size := by have := hg.size; simpa [World.setCell] using this
  have hb : ∀ k, k < w.heap.size → k ≠ r → v.iv.ownBlock ≠ some k → (w1.setCell ⟨r, 17, none⟩ v').heap[k]? = w.heap[k]? := fun k hk h1 h2 =>
    (Below.heap_setCell _ _ _ _ h1).trans (hg.block k hk (fun e => h2 e.symm))
  have bs : Beside w (w1.setCell ⟨r, 17, none⟩ v') r v := fun k hk h1 _ h2 _ => hb k hk h1 h2
  have hr1 : w1.heap[r]? = w.heap[r]? := hg.block r h.lt (fun e => h.r_ne_i e.symm)
  obtain ⟨new, hnr⟩ := h.new_block (v' := v') (o := v.iv.ownBlock) (fun k hk => ⟨h.xi k hk, h.hi k hk, fun e => h.r_ne_i (by rw [← e]; exact hk)⟩) hat
  refine ⟨⟨?_, ?_, ?_, h.irel.snoc hk, ?_, h.nrel, h.trel, h.xr, h.xw, fun k hk => (new k hk).1, h.xn, h.hr, h.hw, fun k hk => (new k hk).2, h.hn, h.heap.keep (h.beside_h bs), fun k hk => Nat.lt_of_lt_of_le (h.xlt k hk) hs, h.xh, h.txt.keep (h.beside_x bs), h.slen, h.ato, h.tol, h.badl, h.openl, h.glob.keep fun k hk => h.beside_x bs k (h.gx k hk), h.gx⟩, ?_⟩
  · have := blk_set (w := w1) (by rw [hr1]; exact h.blk) 17 v'
    simpa [rdCells] using this
  · exact ownsRow_block h.want fun k hk => hb k (h.want.lt k hk).2 (fun e => h.r_ne_w (e ▸ hk)) (fun e => h.w_ne_i hk e)
  · simpa using ownsRow_setCell_other ho (a := ⟨r, 17, none⟩) hnr v'
  · exact ownsRow_block h.nodes fun k hk => hb k (h.nodes.lt k hk).2 (fun e => h.r_ne_n (e ▸ hk)) (fun e => h.i_ne_n e hk)
  · exact ⟨hg.os, hg.tape, hg.output, hs, h.beside_x bs⟩
end

theorem grown_drew {w w1 : World} {o : Obj} {row : Option Nat} (hg : (w.alloc o).drew.grownBy w1 row) {k : Nat} (hk : k < w.heap.size) (hr : row ≠ some k) : w1.heap[k]? = w.heap[k]? :=
  (hg.block k (by simp; omega) (fun e => hr e.symm)).trans (Below.heap_alloc w o k hk)
/-- The draw and the block of its own are no change to who owns what. -/
theorem grown_of_drew {w w1 : World} {o : Obj} {row : Option Nat} (hg : (w.alloc o).drew.grownBy w1 row) : w.grownBy w1 row :=
  ⟨hg.os, hg.tape, hg.output, Nat.le_trans (by simp) hg.size, fun k hk hne => grown_drew hg hk (fun e => hne e.symm)⟩

theorem infoNode : (Tryz.prog.info? 37).map (fun i => (i.zero, i.size, i.bytes)) = some (some (.agg #[.int .i64 0, .int .u64 0, .string ⟨#[]⟩, .slice none 0 0, .int .i64 0]), 5, 64) := by kernel_rfl
end Go.Proofs.YtkaeceedofmhbaaGreatDoor
namespace Go.Proofs.YtkaeceedofmhbaaGreatDoor
open Go.RowKit Bk
attribute [local go_sem ↓] Go.wp_at_zero Go.wp_at_succ

section
variable {X : Nat → Prop} {H : Frozen} {r : Nat} {sv : Value} {src : Bytes} {st : St} {w w1 : World}

set_option maxRecDepth 100000 in
set_option maxHeartbeats 1600000 in
theorem node_c (x : NodeV) (kv : Value) (hk : FInts H kv x.kids) (h : RdOK X H w r sv src st) (hf : node x st ≠ .bad .fuel) :
    Calls Tryz.prog 149 #[.pointer (some ⟨r, 0, none⟩), .agg #[.int .i64 x.op, .int .u64 x.n, str x.s, kv, .int .i64 x.at_]] w (Post X w (node x st) (Good rI X H r sv src)) := by
  have hl : st.nodes.length < most := by
    refine Decidable.byContradiction fun hn => hf ?_
    simp [node, hn]
  obtain ⟨v, ic, nc, h⟩ := h
  obtain ⟨T, hT⟩ : ∃ T, T = node x st := ⟨_, rfl⟩
  rw [← hT]
  have EQ0 := Lib.hid (hT.trans (if_pos hl))
  have hlt := h.lt
  have c18 : w.cell? ⟨r, 18, none⟩ = some v.nv := cell_of_blk h.blk 18
  have hown := h.nodes
  obtain ⟨i0, hi0, hz0, hz1, hz2⟩ := info_parts infoNode
  have HH := Lib.hid h
  have HK := Lib.hid hk
  have hlm : st.nodes.length < 1073741824 := hl
  clear h hk hf hT hl
  obtain ⟨op, hop⟩ : ∃ a, a = x.op := ⟨_, rfl⟩
  obtain ⟨n, hn⟩ : ∃ a, a = x.n := ⟨_, rfl⟩
  obtain ⟨s, hs⟩ : ∃ a, a = x.s := ⟨_, rfl⟩
  obtain ⟨at_, hat⟩ : ∃ a, a = x.at_ := ⟨_, rfl⟩
  rw [← hop, ← hn, ← hs, ← hat]
  have HX := Lib.hid (show nodeCells x kv = [.int .i64 op, .int .u64 n, str s, kv, .int .i64 at_] by rw [hop, hn, hs, hat]; rfl)
  clear hop hn hs hat
  go_enter Tryz.func149, Tryz.ntmps149
  go_wp2_with fail
  obtain ⟨o1, ho1⟩ : ∃ o1 : Obj, o1 = .cells #[.int .i64 op, .int .u64 n, str s, kv, .int .i64 at_] 37 := ⟨_, rfl⟩
  rw [show (Obj.cells #[.int .i64 op, .int .u64 n, str s, kv, .int .i64 at_] 37) = o1 from ho1.symm]
  obtain ⟨W, hW⟩ : ∃ W, W = w.alloc o1 := ⟨_, rfl⟩
  rw [← hW]
  have hsz : W.heap.size = w.heap.size + 1 := by rw [hW]; simp
  have hB : W.heap[w.heap.size]? = some o1 := by rw [hW]; exact heap_alloc_new w o1
  rw [ho1] at hB
  have hP : RdP X H W r sv src st v ic nc := by rw [hW]; exact HH.out.world (by simp) fun k hk => Below.heap_alloc _ _ _ hk
  have FR1 := Lib.hid (show Fr X w W by rw [hW]; exact (Fr.refl X w).alloc HH.out.xlt _)
  obtain ⟨B, hBe⟩ : ∃ B, B = w.heap.size := ⟨_, rfl⟩
  rw [← hBe] at hB hsz ⊢
  have aB : v.nv.ownBlock ≠ some B := fun e => by have := (hown.lt _ e).2; omega
  have ar := HH.out.r_ne_n
  have hrB : r ≠ B := by omega
  have HP := Lib.hid hP
  have hown2 := hP.nodes
  have d18 : W.cell? ⟨r, 18, none⟩ = some v.nv := cell_of_blk hP.blk 18
  have f18 := free_of_blk hP.blk 18
  have b0 : W.cell? ⟨B, 0, none⟩ = some (.int .i64 op) := cell_of_blk (cs := [.int .i64 op, .int .u64 n, str s, kv, .int .i64 at_]) hB 0
  have b1 : W.cell? ⟨B, 1, none⟩ = some (.int .u64 n) := cell_of_blk (cs := [.int .i64 op, .int .u64 n, str s, kv, .int .i64 at_]) hB 1
  have b2 : W.cell? ⟨B, 2, none⟩ = some (str s) := cell_of_blk (cs := [.int .i64 op, .int .u64 n, str s, kv, .int .i64 at_]) hB 2
  have b3 : W.cell? ⟨B, 3, none⟩ = some kv := cell_of_blk (cs := [.int .i64 op, .int .u64 n, str s, kv, .int .i64 at_]) hB 3
  have b4 : W.cell? ⟨B, 4, none⟩ = some (.int .i64 at_) := cell_of_blk (cs := [.int .i64 op, .int .u64 n, str s, kv, .int .i64 at_]) hB 4
  have hrW : r < W.heap.size := by omega
  have hBW : B < W.heap.size := by omega
  have hone : ∀ u ∈ [Value.int .i64 op, .int .u64 n, str s, kv, .int .i64 at_], u.oneCell' = true := by
    intro u hu
    have hkv : kv.oneCell' = true := by
      rcases HK.out with ⟨e, _⟩ | ⟨g, cap, e, _⟩ <;> rw [e] <;> rfl
    simp only [List.mem_cons, List.not_mem_nil, or_false] at hu
    rcases hu with rfl | rfl | rfl | rfl | rfl
    · rfl
    · rfl
    · rfl
    · exact hkv
    · rfl
  have HONE := Lib.hid hone
  clear hone
  clear hW ho1 hP hown c18 hlt hB hBe hsz
  go_region_law
    ((refine step_append_lies _ (by rfl) _ _ _ (by rfl) 0 37 i0 _ 5 64 Tryz.underlying26 hi0 hz0 hz1 hz2 rfl (by omega) v.nv st.nodes.length nc (by rfl) ((hown2.alloc _).drew)
        ⟨W.heap.size, 0, none⟩ 1 1 [.int .i64 op, .int .u64 n, str s, kv, .int .i64 at_] (by rfl) (by rfl) (World.news_of_block (cs := #[.int .i64 op, .int .u64 n, str s, kv, .int .i64 at_]) (t := 37) (fr := (0, 0)) (heap_alloc_new W _)) HONE.out
        (by omega) (by unfold maxLen; omega) (by omega) (by simp) (W.heap.size + 1) (by simp) ?_; intro gg cap w1 hown1 hgrow hat hlt; have g18 := (World.frozen?_of_block (a := ⟨r, 18, none⟩) (grown_drew hgrow hrW ar)).trans f18; have k18 := (World.cell?_of_block (a := ⟨r, 18, none⟩) (grown_drew hgrow hrW ar)).trans d18))
  all_goals
    have fin := HP.out.nodes_append (x := x) (kv := kv) HK.out (grown_of_drew hgrow) (by rw [HX.out]; exact hown1) (by
      rcases hat with e | e
      · exact .inl e.symm
      · exact .inr ⟨gg, by omega, rfl⟩)
    have FIN := Lib.hid fin
    clear fin hgrow hown1 hat hown2
    go_wp2_with fail
    go_ret
    exact Post.ok EQ0.out ⟨H, Le.refl H, ⟨_, _, _, FIN.out.1⟩, rfl⟩ (FR1.out.trans FIN.out.2)
end
end Go.Proofs.YtkaeceedofmhbaaGreatDoor
namespace Go.Proofs.YtkaeceedofmhbaaGreatDoor
open Go.RowKit Bk

theorem rank_low {k : Int} (h : k < 14 ∨ 29 < k) : rank k = 0 := by
  unfold rank
  rw [if_neg (by omega), if_neg (by omega), if_neg (by omega), if_neg (by omega), if_neg (by omega), if_neg (by omega), if_neg (by omega)]

theorem rank_c (k : Int) (w : World) : Calls Tryz.prog 148 #[.int .i64 k] w fun e w' => e = .returned (.int .i64 (rank k)) ∧ w = w' := by
  by_cases h : k < 14 ∨ 29 < k
  · rw [rank_low h]
    have e20 : (k == 20) = false := by rw [beq_eq_false_iff_ne]; omega
    have e21 : (k == 21) = false := by rw [beq_eq_false_iff_ne]; omega
    have e22 : (k == 22) = false := by rw [beq_eq_false_iff_ne]; omega
    have e23 : (k == 23) = false := by rw [beq_eq_false_iff_ne]; omega
    have e24 : (k == 24) = false := by rw [beq_eq_false_iff_ne]; omega
    have e25 : (k == 25) = false := by rw [beq_eq_false_iff_ne]; omega
    have e26 : (k == 26) = false := by rw [beq_eq_false_iff_ne]; omega
    have e27 : (k == 27) = false := by rw [beq_eq_false_iff_ne]; omega
    have e28 : (k == 28) = false := by rw [beq_eq_false_iff_ne]; omega
    have e29 : (k == 29) = false := by rw [beq_eq_false_iff_ne]; omega
    rcases h with h | h
    · have h2 : ¬ 14 ≤ k := by omega
      go_enter Tryz.func148, Tryz.ntmps148
      go_wp2_with fail
      go_ret
      exact ⟨rfl, rfl⟩
    · have h2 : ¬ k ≤ 19 := by omega
      go_enter Tryz.func148, Tryz.ntmps148
      go_wp2_with fail
      all_goals
        go_ret
        exact ⟨rfl, rfl⟩
  · have h2 : k = 14 ∨ k = 15 ∨ k = 16 ∨ k = 17 ∨ k = 18 ∨ k = 19 ∨ k = 20 ∨ k = 21 ∨ k = 22 ∨ k = 23 ∨ k = 24 ∨ k = 25 ∨ k = 26 ∨ k = 27 ∨ k = 28 ∨ k = 29 := by omega
    clear h
    rcases h2 with rfl | rfl | rfl | rfl | rfl | rfl | rfl | rfl | rfl | rfl | rfl | rfl | rfl | rfl | rfl | rfl
    all_goals
      go_enter Tryz.func148, Tryz.ntmps148
      go_wp2_with fail
      go_ret
      exact ⟨rfl, rfl⟩
end Go.Proofs.YtkaeceedofmhbaaGreatDoor
namespace Go.Proofs.YtkaeceedofmhbaaGreatDoor
open Go.RowKit Bk

def signsText : Bytes := List.intercalate [32] signs
def signsObj : Obj := .cells (signs.map str).toArray 9

theorem signs_fields : Lib.fields (⟨signsText.toArray⟩ : ByteArray).data.toList = signs := by decide +kernel
theorem signs_ascii : ∀ (j : Nat) b, (⟨signsText.toArray⟩ : ByteArray).data.toList[j]? = some b → b.toNat < 128 := by
  intro j b h
  have key : ∀ b ∈ signsText, b.toNat < 128 := by decide +kernel
  exact key b (List.mem_of_getElem? h)

theorem fields_signs_c (s : ByteArray) (hs : s = ⟨signsText.toArray⟩) (w : World) (hg : Glob w) :
    Calls Tryz.prog 109 #[.string s] w fun e w' => e = .returned (.slice (some ⟨w.heap.size, 0, none⟩) 26 26) ∧ w.alloc signsObj = w' := by
  subst hs
  refine (Tryz.strings_Fields _ w (by decide +kernel) signs_ascii hg.space).mono ?_
  rw [signs_fields]
  rintro e w' ⟨rfl, rfl⟩
  exact ⟨rfl, rfl⟩

theorem spelled_word (j : Nat) (h : j < 50) : spelled (30 + (j : Int)) = words.getD j [] := by
  unfold spelled
  rw [if_pos (by omega), show (30 + (j : Int)).toNat - 30 = j by omega]
theorem spelled_sign (j : Nat) (h : j < 26) : spelled (4 + (j : Int)) = signs.getD j [] := by
  unfold spelled
  rw [if_neg (by omega), if_pos (by omega), show (4 + (j : Int)).toNat - 4 = j by omega]

set_option maxRecDepth 100000 in
theorem spelled_c (k : Int) (w : World) (hg : Glob w) :
    Calls Tryz.prog 81 #[.int .i64 k] w fun e w' => e = .returned (str (spelled k)) ∧ Below w.heap.size w w' := by
  have HG := Lib.hid hg
  clear hg
  by_cases h1 : 30 ≤ k ∧ k ≤ 79
  · obtain ⟨j, rfl⟩ : ∃ j : Nat, k = 30 + (j : Int) := ⟨(k - 30).toNat, by omega⟩
    have hj : j < 50 := by omega
    rw [spelled_word j hj]
    obtain ⟨v, hv⟩ : ∃ v, v = words.getD j [] := ⟨_, rfl⟩
    rw [← hv]
    have hcell : (w.alloc wordsObj).cell? ⟨w.heap.size, j, none⟩ = some (str v) := by
      unfold wordsObj
      rw [cell_of_blk (cs := words.map str) (t := 9) (heap_alloc_new w _), hv]
      have : j < words.length := hj
      simp [List.getElem?_eq_getElem this, List.getD_eq_getElem?_getD]
    have e1 : IntKind.i64.wrap (30 + (j : Int) - 30) = (j : Int) := by
      rw [show 30 + (j : Int) - 30 = (j : Int) by omega]; exact IntWalk.i64_in _ ⟨by omega, by omega⟩
    have d1 : decide (30 + (j : Int) ≥ 30) = true := by simp; omega
    have d2 : decide (30 + (j : Int) ≤ 79) = true := by simp; omega
    have b0 : (0 : Int) ≤ (j : Int) := Int.natCast_nonneg _
    have b1 : (j : Int) < 50 := by omega
    clear h1 hv
    go_enter Tryz.func81, Tryz.ntmps81
    go_wp2_with fail
    refine (fields_c _ (by kernel_rfl) _ HG.out).mono ?_
    rintro e w1 ⟨rfl, rfl⟩
    go_wp2_with fail
    go_ret
    exact ⟨rfl, (Below.refl _ _).alloc (Nat.le_refl _) _⟩
  · by_cases h2 : 4 ≤ k ∧ k ≤ 29
    · obtain ⟨j, rfl⟩ : ∃ j : Nat, k = 4 + (j : Int) := ⟨(k - 4).toNat, by omega⟩
      have hj : j < 26 := by omega
      rw [spelled_sign j hj]
      obtain ⟨v, hv⟩ : ∃ v, v = signs.getD j [] := ⟨_, rfl⟩
      rw [← hv]
      have hcell : (w.alloc signsObj).cell? ⟨w.heap.size, j, none⟩ = some (str v) := by
        unfold signsObj
        rw [cell_of_blk (cs := signs.map str) (t := 9) (heap_alloc_new w _), hv]
        have : j < signs.length := hj
        simp [List.getElem?_eq_getElem this, List.getD_eq_getElem?_getD]
      have e1 : IntKind.i64.wrap (4 + (j : Int) - 4) = (j : Int) := by
        rw [show 4 + (j : Int) - 4 = (j : Int) by omega]; exact IntWalk.i64_in _ ⟨by omega, by omega⟩
      have d0 : ¬ 30 ≤ 4 + (j : Int) := by omega
      have d1 : decide (4 + (j : Int) ≥ 4) = true := by simp; omega
      have d2 : decide (4 + (j : Int) ≤ 29) = true := by simp; omega
      have b0 : (0 : Int) ≤ (j : Int) := Int.natCast_nonneg _
      have b1 : (j : Int) < 26 := by omega
      clear h1 h2 hv
      go_enter Tryz.func81, Tryz.ntmps81
      go_wp2_with fail
      refine (fields_signs_c _ (by kernel_rfl) _ HG.out).mono ?_
      rintro e w1 ⟨rfl, rfl⟩
      go_wp2_with fail
      go_ret
      exact ⟨rfl, (Below.refl _ _).alloc (Nat.le_refl _) _⟩
    · have e : spelled k = [] := by unfold spelled; rw [if_neg h1, if_neg h2]
      rw [e]
      clear e
      by_cases h3 : k < 4
      · have d0 : ¬ 30 ≤ k := by omega
        have d1 : ¬ 4 ≤ k := by omega
        clear h1 h2
        go_enter Tryz.func81, Tryz.ntmps81
        go_wp2_with fail
        go_ret
        exact ⟨rfl, Below.refl _ _⟩
      · have d0 : 30 ≤ k := by omega
        have d1 : ¬ k ≤ 79 := by omega
        have d2 : ¬ k ≤ 29 := by omega
        have d3 : 4 ≤ k := by omega
        clear h1 h2 h3
        go_enter Tryz.func81, Tryz.ntmps81
        go_wp2_with fail
        go_ret
        exact ⟨rfl, Below.refl _ _⟩
end Go.Proofs.YtkaeceedofmhbaaGreatDoor
