/-
  Plain Lean: a lexeme that is one has at least one byte.
  scan: Tokens.
  scan: Legal.
-/
import Derived.Test.YtkaeceedofmhbaaGreatDoorGPKeep
import Derived.Test.YtkaeceedofmhbaaGreatDoorGSc20
import Derived.Deep.LoopGhost
import Derived.Deep.DeepMust
import Derived.Test.YtkaeceedofmhbaaGreatDoorGSc15
import Derived.Shelf.Strings.FuncGrows
namespace Bk
theorem digits_ge (h : Bool) : ∀ (s : Bytes) (n k : Nat), k ≤ (digits h n k s).2.2.1
  | [], n, k => Nat.le_refl _
  | c :: r, n, k => by
    rw [digits]
    by_cases h1 : (if h then decide (hexv c < 16) else cls c == 3) = true
    · rw [if_pos h1]
      dsimp only
      by_cases h2 : (if h then n * 16 + hexv c else n * 10 + (c.toNat - 48)) < 18446744073709551616
      · rw [if_pos h2]; exact Nat.le_of_succ_le (digits_ge h r _ (k + 1))
      · rw [if_neg h2]; exact Nat.le_refl _
    · rw [if_neg h1]; exact Nat.le_refl _
theorem intEnd_ge (n k : Nat) (s : Bytes) : (intEnd n k s).1 = true → k ≤ (intEnd n k s).2.2 := by
  intro _
  cases s with
  | nil => exact Nat.le_refl _
  | cons c r =>
    unfold intEnd
    dsimp only
    by_cases h1 : cls c = 4
    · rw [if_pos h1]
      by_cases h2 : c = 77 ∨ c = 75
      · rw [if_pos h2]
        by_cases h3 : (if c = 77 then n * 1048576 else n * 1024) < 18446744073709551616
        · rw [if_pos h3]; exact Nat.le_succ _
        · rw [if_neg h3]; exact Nat.le_refl _
      · rw [if_neg h2]; exact Nat.le_refl _
    · rw [if_neg h1]; exact Nat.le_refl _
theorem integer_pos {c : UInt8} {r : Bytes} (hc : cls c = 3) (h : (integer (c :: r)).1 = true) : 0 < (integer (c :: r)).2.2 := by
  revert h
  unfold integer
  split
  · rename_i r' he
    intro h
    dsimp only at h ⊢
    have hd := digits_ge true r' 0 2
    by_cases h1 : (digits true 0 2 r').1 = true
    · rw [if_pos h1] at h ⊢
      by_cases h2 : (digits true 0 2 r').2.2.1 = 2
      · rw [if_pos h2] at h; cases h
      · rw [if_neg h2] at h ⊢
        have := intEnd_ge _ _ _ h
        omega
    · rw [if_neg h1] at h; cases h
  · intro h
    dsimp only at h ⊢
    have hlt : c.toNat < 256 := c.toNat_lt
    have hd : 1 ≤ (digits false 0 0 (c :: r)).2.2.1 := by
      rw [digits, if_pos (by simpa using hc)]
      dsimp only
      rw [if_pos (by simp; omega)]
      exact digits_ge false r _ 1
    by_cases h1 : (digits false 0 0 (c :: r)).1 = true
    · rw [if_pos h1] at h ⊢
      have := intEnd_ge _ _ _ h
      omega
    · rw [if_neg h1] at h; cases h
theorem text_ge : ∀ (n : Nat) (s : Bytes), s.length ≤ n → ∀ (o : Bytes) (k : Nat), k ≤ (text o k s).2.2
  | 0, s, h, o, k => by
    cases s with
    | nil => unfold text; exact Nat.le_refl _
    | cons c r => simp at h
  | n + 1, s, h, o, k => by
    have ih := text_ge n
    unfold text
    split
    · exact Nat.le_refl _
    · rename_i c r
      simp only [List.length_cons] at h
      split
      · exact Nat.le_succ _
      · split
        · split
          · exact Nat.le_succ _
          · rename_i e r'
            simp only [List.length_cons] at h
            split
            · exact Nat.le_trans (by omega) (ih r' (by omega) _ _)
            · split
              · exact Nat.le_trans (by omega) (ih r' (by omega) _ _)
              · split
                · exact Nat.le_trans (by omega) (ih r' (by omega) _ _)
                · split
                  · split
                    · simp
                    · rename_i a r''
                      simp only [List.length_cons] at h
                      split
                      · simp
                      · split
                        · simp
                        · rename_i b r3
                          simp only [List.length_cons] at h
                          split
                          · simp
                          · exact Nat.le_trans (by omega) (ih r3 (by omega) _ _)
                  · simp
        · split
          · exact Nat.le_refl _
          · exact Nat.le_trans (by omega) (ih r (by omega) _ _)
theorem sign_pos (b next : UInt8) : 0 < (sign b next).2 := by
  unfold sign
  repeat (split <;> try (simp))
theorem lexeme_pos {s : Bytes} (h : (lexeme s).1 = true) : 0 < (lexeme s).2.2.2.2 := by
  cases s with
  | nil => cases h
  | cons c r =>
    revert h
    unfold lexeme
    dsimp only
    by_cases h3 : cls c = 3
    · rw [if_pos h3]; intro h; exact integer_pos h3 h
    · rw [if_neg h3]
      by_cases h4 : cls c = 4
      · rw [if_pos h4]
        have hr : 0 < run (c :: r) := by rw [run, if_pos (.inr h4)]; omega
        intro _
        split
        · simp
        · split <;> exact hr
      · rw [if_neg h4]
        by_cases h5 : cls c = 5
        · rw [if_pos h5]; intro _; exact text_ge _ r (Nat.le_refl _) [] 1
        · rw [if_neg h5]
          by_cases h6 : cls c = 6
          · rw [if_pos h6]; intro _; exact sign_pos _ _
          · rw [if_neg h6]; intro h; cases h
end Bk
namespace Go.Proofs.YtkaeceedofmhbaaGreatDoor
open Go.RowKit Bk

theorem tokens_long (w : World) (a : Option Addr) (n cap : Nat) (h : 1048576 < n) :
    Calls Tryz.prog 15 #[.slice a n cap] w fun e w' => e = .returned (.tuple #[.slice none 0 0, .int .i64 0, .int .i64 3]) ∧ w = w' := by
  have d : decide ((n : Int) > 1048576) = true := by simp; omega
  go_enter Tryz.func15, Tryz.ntmps15
  go_wp2_with fail
  go_ret3
  exact ⟨rfl, rfl⟩

def TokensPost (X : Nat → Prop) (n : Nat) (w0 : World) (R : Except Nat (List Tok)) (e : Ending) (w : World) : Prop :=
  Fr X w0 w ∧ match R with
    | .ok l => ∃ v, e = .returned (.tuple #[v, .int .i64 0, .int .i64 0]) ∧ w.ownsRow w0.heap.size 49 5 v l.length (l.flatMap tokCells)
    | .error b => e = .returned (.tuple #[.slice none 0 0, .int .i64 b, .int .i64 60]) ∧ b ≤ n

section
variable {X Y : Nat → Prop} {w : World} {c : Nat} {sv : Value} {s : Bytes} {j : Nat}
theorem Cur.turn (h : Cur X w c sv s j) (hy : ∀ k, X k → Y k) (hc : ¬ Y c) (hlt : ∀ k, Y k → k < w.heap.size) : Cur Y w c sv s j := by
  obtain ⟨a, cap, e, h1, h2, h3⟩ := h.txt
  refine ⟨h.blk, ⟨a, cap, e, h1, h2, fun hs => ?_⟩, h.atl, h.slen, hc, hlt, h.glob, fun k hk => hy k (h.gx k hk)⟩
  obtain ⟨b, off, ha, hx, hcell⟩ := h3 hs
  exact ⟨b, off, ha, hy b hx, hcell⟩
end

theorem infoTok : (Tryz.prog.info? 49).map (fun i => (i.zero, i.size, i.bytes)) = some (some (.agg #[.int .i64 0, .int .u64 0, .string ⟨#[]⟩, .int .i64 0, .int .i64 0]), 5, 48) := by kernel_rfl

section
variable {X Y : Nat → Prop} {w : World} {c : Nat} {sv : Value} {s : Bytes} {j : Nat}
theorem Cur.turn' (h : Cur Y w c sv s j) (hy : ∀ k, X k → Y k) (ht : Txt X w sv s) (gx : ∀ k, k < low → X k) : Cur X w c sv s j :=
  ⟨h.blk, ht, h.atl, h.slen, fun hx => h.xc (hy _ hx), fun k hk => h.xlt k (hy k hk), h.glob, gx⟩
end

set_option maxRecDepth 100000 in
set_option maxHeartbeats 1000000 in
theorem tokens_c {X : Nat → Prop} {sv : Value} {s : Bytes} (w : World) (F : Nat) (ht : Txt X w sv s) (hlen : s.length ≤ 1048576) (hg : Glob w) (hX : ∀ k, X k → k < w.heap.size) (hgx : ∀ k, k < low → X k) (hF : s.length < F) :
    Calls Tryz.prog 15 #[sv] w (TokensPost X s.length w (tokens F 0 s)) := by
  obtain ⟨a, cap, hsv, -⟩ := id ht
  have HT := Lib.hid ht
  have d : decide ((s.length : Int) > 1048576) = false := by simp; omega
  have hc0 : ¬ X w.heap.size := fun h => by have := hX _ h; omega
  have hcur : Cur X (w.alloc (.cells #[sv, .int .i64 0] 73)) w.heap.size sv s 0 :=
    ⟨heap_alloc_new w _, ht.keep fun k hk => Below.heap_alloc _ _ _ (hX k hk), Nat.zero_le _, hlen, hc0, fun k hk => by have := hX k hk; simp; omega, hg.keep fun k hk => Below.heap_alloc _ _ _ (hX k (hgx k hk)), hgx⟩
  have HC := Lib.hid hcur
  have HF := Lib.hid ((Fr.refl X w).alloc hX (.cells #[sv, .int .i64 0] 73))
  have HSV := Lib.hid hsv
  obtain ⟨R, hR⟩ : ∃ R, R = tokens F 0 s := ⟨_, rfl⟩
  rw [← hR]
  have HR := Lib.hid hR
  rw [hsv] at HC HF ⊢
  clear ht hg hcur hR hsv
  go_enter Tryz.func15, Tryz.ntmps15
  go_wp2_with fail
  rw [← HSV.out] at HC HF ⊢
  obtain ⟨c, hc⟩ : ∃ c, c = w.heap.size := ⟨_, rfl⟩
  rw [← hc] at HC ⊢
  have HCE := Lib.hid hc
  clear hc
  obtain ⟨w1, hw1⟩ : ∃ w1, w1 = w.alloc (.cells #[sv, .int .i64 0] 73) := ⟨_, rfl⟩
  rw [← hw1] at HC HF ⊢
  clear hw1
  go_loopg [6] F (fun g ov wr => ∃ j acc, j ≤ s.length ∧ s.length - j < g ∧ Hid (Cur X wr c sv s j ∧ Fr X w wr ∧ wr.ownsRow w.heap.size 49 5 ov acc.length (acc.flatMap tokCells) ∧ acc.length ≤ j ∧ R = cont acc (tokens g j (s.drop j))))
  case atStart => exact ⟨0, [], by omega, by omega, Lib.hid ⟨HC.out, HF.out, ⟨rfl, .inl ⟨rfl, rfl⟩⟩, Nat.le_refl _, by rw [cont_nil]; exact HR.out⟩⟩
  case round =>
    obtain ⟨j, acc, hj, hg, hrel⟩ := hrel
    obtain ⟨hcur, hfr, hown, hal, hR1⟩ := hrel.out
    have hY : Cur (fun k => X k ∨ u6.ownBlock = some k) wr c sv s j := hcur.turn (fun _ h => .inl h) (by
      rintro (h | h)
      · exact hcur.xc h
      · obtain ⟨cur, hb⟩ := ownsRow_type hown h
        rw [hcur.blk] at hb; cases hb) (by
      rintro k (h | h)
      · exact hcur.xlt k h
      · exact (hown.lt k h).2)
    have HY := Lib.hid hY
    have HO := Lib.hid hown
    have HF1 := Lib.hid hfr
    have HR1 := Lib.hid hR1
    obtain ⟨q, hq⟩ : ∃ q, q = j + blanks false (s.drop j) := ⟨_, rfl⟩
    have HQ := Lib.hid hq
    have hsk := skip_c hY
    rw [← hq] at hsk
    obtain ⟨bq, hbq⟩ : ∃ bq, bq = decide (q < s.length) := ⟨_, rfl⟩
    rw [← hbq] at hsk
    have HSK := Lib.hid hsk
    clear hrel hcur hfr hown hR1 hY hq hsk
    by_cases hql : q < s.length
    · obtain rfl : bq = true := by rw [hbq]; simpa using hql
      clear hbq
      go_wp2_with fail
      refine HSK.out.mono ?_
      rintro e w2 ⟨rfl, hc2, hf2⟩
      have c1 := hc2.c1
      have hct : CT (fun k => X k ∨ u6.ownBlock = some k) (w2.alloc (.cells (tokCells { at_ := (q : Int) }).toArray 49)) c sv s q w2.heap.size { at_ := (q : Int) } :=
        ⟨hc2.alloc _, heap_alloc_new w2 _, fun h => by have := hc2.xlt _ h; omega⟩
      have HLX := Lib.hid (lexeme_c _ hct hql rfl rfl)
      have HF2 := Lib.hid hf2
      have HX2 := Lib.hid hc2.xlt
      clear hc2 hf2 hct
      go_wp2_with fail
      refine HLX.out.mono ?_
      rintro e w4 ⟨rfl, hf4, t', hct4, ht'⟩
      have hown4 : w4.ownsRow w.heap.size 49 5 u6 acc.length (acc.flatMap tokCells) := ownsRow_block HO.out fun k hk =>
        (hf4.block k (.inr hk)).trans ((Below.heap_alloc w2 _ k (HX2.out k (.inr hk))).trans (HF2.out.block k (.inr hk)))
      have hfr4 : Fr X w w4 := HF1.out.trans ((HF2.out.mono fun _ h => .inl h).trans (((Fr.refl X w2).alloc (fun k hk => HX2.out k (.inl hk)) _).trans (hf4.mono fun _ h => .inl h)))
      have HO4 := Lib.hid hown4
      have HF4 := Lib.hid hfr4
      have HC4 := Lib.hid hct4
      have HT4 := Lib.hid ht'
      have d1 := hct4.cur.c1
      obtain ⟨b, hb⟩ : ∃ b, b = w2.heap.size := ⟨_, rfl⟩
      rw [← hb] at HC4 hct4 ⊢
      have HBE := Lib.hid hb
      obtain ⟨L, hL⟩ : ∃ L, L = lexeme (s.drop q) := ⟨_, rfl⟩
      rw [← hL] at HC4 HT4 d1 hct4 ⊢
      have HL := Lib.hid hL
      have hq4 := hct4.cur.atl
      clear hown4 hfr4 hf4 hct4 ht' hb hL c1
      obtain ⟨lb, hlb⟩ : ∃ lb, lb = L.1 := ⟨_, rfl⟩
      rw [← hlb] at HT4 ⊢
      obtain ⟨q', hq'⟩ : ∃ q', q' = q + L.2.2.2.2 := ⟨_, rfl⟩
      rw [← hq'] at HC4 d1 hq4
      have HQ' := Lib.hid hq'
      have HLB := Lib.hid hlb
      clear hq' hlb
      cases lb with
      | false =>
        have hfin : ∀ w', Fr X w w' → TokensPost X s.length w R (.returned (.tuple #[.slice none 0 0, .int .i64 q', .int .i64 60])) w' := fun w' hw' => by
          refine ⟨hw', ?_⟩
          obtain ⟨g', rfl⟩ : ∃ g', gk = g' + 1 := ⟨gk - 1, by omega⟩
          rw [HR1.out, tokens_bad HQ.out hql (by rw [← HL.out]; exact HLB.out.symm), ← HL.out, ← HQ'.out]
          exact ⟨rfl, hq4⟩
        have HFIN := Lib.hid hfin
        clear hfin
        go_wp2_with fail
        go_quiet (fail)
        go_wp2_with fail
        go_ret3
        exact HFIN.out _ (HF4.out.drewN _)
      | true =>
        have ht := HT4.out rfl
        subst ht
        have t0 : w4.cell? ⟨b, 0, none⟩ = some (.int .i64 L.2.1) := HC4.out.cell 0
        have t1 : w4.cell? ⟨b, 1, none⟩ = some (.int .u64 L.2.2.1) := HC4.out.cell 1
        have t2 : w4.cell? ⟨b, 2, none⟩ = some (str L.2.2.2.1) := HC4.out.cell 2
        have t3 : w4.cell? ⟨b, 3, none⟩ = some (.int .i64 q) := HC4.out.cell 3
        have t4 : w4.cell? ⟨b, 4, none⟩ = some (.int .i64 0) := HC4.out.cell 4
        have tf4 := HC4.out.tfree 4
        have hob : u6.ownBlock ≠ some b := fun e => by have := HX2.out b (.inr e); have := HBE.out; omega
        have hown5 : (w4.setCell ⟨b, 4, none⟩ (.int .i64 q')).ownsRow w.heap.size 49 5 u6 acc.length (acc.flatMap tokCells) := ownsRow_setCell_other HO4.out (a := ⟨b, 4, none⟩) hob _
        have hpos : 0 < L.2.2.2.2 := by rw [HL.out]; exact lexeme_pos (by rw [← HL.out]; exact HLB.out.symm)
        have hqq : q < q' := by have := HQ'.out; omega
        have hjq : j ≤ q := by have := HQ.out; omega
        have hle := HF4.out.size
        obtain ⟨i0, hi0, hz0, hz1, hz2⟩ := info_parts infoTok
        obtain ⟨tk, htk⟩ : ∃ tk : Tok, tk = { kind := L.2.1, n := L.2.2.1, s := L.2.2.2.1, at_ := (q : Int), end_ := (q' : Int) } := ⟨_, rfl⟩
        obtain ⟨x0, hx0⟩ : ∃ x, x = L.2.1 := ⟨_, rfl⟩
        obtain ⟨x1, hx1⟩ : ∃ x, x = L.2.2.1 := ⟨_, rfl⟩
        obtain ⟨x2, hx2⟩ : ∃ x, x = L.2.2.2.1 := ⟨_, rfl⟩
        have HTK := Lib.hid (show tokCells tk = [.int .i64 x0, .int .u64 x1, str x2, .int .i64 q, .int .i64 q'] by rw [htk, hx0, hx1, hx2]; rfl)
        rw [← hx0] at t0
        rw [← hx1] at t1
        rw [← hx2] at t2
        have hcur5 : Cur X (w4.setCell ⟨b, 4, none⟩ (.int .i64 q')) c sv s q' := by
          refine (HC4.out.cur.turn' (X := X) (fun _ h => .inl h) (HT.out.keep HF4.out.block) hgx).world (by simp [World.setCell]) (Below.heap_setCell _ _ _ _ ?_) (fun k hk => Below.heap_setCell _ _ _ _ ?_)
          · exact HC4.out.ne
          · exact fun e => HC4.out.xb (.inl ((show k = b from e) ▸ hk))
        have hxb : ¬ X b := fun h => HC4.out.xb (.inl h)
        have HC5 := Lib.hid hcur5
        have HTKE := Lib.hid htk
        have HXB := Lib.hid hxb
        have HNEW := Lib.hid (fun o : Obj => (show ((w4.setCell ⟨b, 4, none⟩ (.int .i64 q')).alloc o).heap[w4.heap.size]? = some o by
          have e : (w4.setCell ⟨b, 4, none⟩ (.int .i64 q')).heap.size = w4.heap.size := by simp [World.setCell]
          rw [← e]; exact heap_alloc_new _ o))
        clear hcur5 htk hx0 hx1 hx2 hpos HT4 hxb
        go_wp2_with (at_builtin; go_must (refine wpList_append_own_at _ rfl (.tmp 33) (.tmp 35) 44 rfl w.heap.size 49 i0 _ 5 48 Tryz.underlying44 hi0 hz0 hz1 hz2 rfl (by decide) _ _ _ rfl (hown5.alloc _) ⟨w4.heap.size, 0, none⟩ 1 1 [.int .i64 x0, .int .u64 x1, str x2, .int .i64 q, .int .i64 q'] rfl rfl (World.news_of_block (cs := #[.int .i64 x0, .int .u64 x1, str x2, .int .i64 q, .int .i64 q']) (t := 49) (fr := (0, 0)) (HNEW.out _)) ?c2 ?c3 ?c4 ?c5 ?_))
        case c2 => intro u hu; simp at hu; rcases hu with rfl | rfl | rfl | rfl | rfl <;> rfl
        case c3 => unfold maxLen; omega
        case c4 => omega
        case c5 => simp; omega
        intro v' w6 hown6 hgrow6 _ hat6
        obtain ⟨g', hg'⟩ : ∃ g', gk = g' + 1 := ⟨gk - 1, by omega⟩
        have hoc : u6.ownBlock ≠ some c := fun e => by
          obtain ⟨cur, hb⟩ := ownsRow_type hown5 e
          rw [HC5.out.blk] at hb; cases hb
        have hox : ∀ k, X k → u6.ownBlock ≠ some k := fun k hk e => by have h1 := (HO.out.lt k e).1; have h2 := hX k hk; omega
        have hcur6 : Cur X w6 c sv s q' := HC5.out.world (Nat.le_trans (by simp) hgrow6.size) (grown_block hgrow6 (lt_of_block HC5.out.blk) hoc) fun k hk => grown_block hgrow6 (HC5.out.xlt k hk) (hox k hk)
        have hfr6 : Fr X w w6 := (((HF4.out.setCell (p := ⟨b, 4, none⟩) HXB.out _).alloc HC5.out.xlt _).grown hgrow6 (fun k hk => by have := HC5.out.xlt k hk; simp at this ⊢; omega) (fun k e hk => hox k hk e))
        have hown7 : w6.ownsRow w.heap.size 49 5 v' (acc ++ [tk]).length ((acc ++ [tk]).flatMap tokCells) := by
          have e : (acc ++ [tk]).flatMap tokCells = acc.flatMap tokCells ++ [.int .i64 x0, .int .u64 x1, str x2, .int .i64 q, .int .i64 q'] := by
            rw [← HTK.out]; simp
          rw [e, List.length_append]
          exact hown6
        have hR6 : R = cont (acc ++ [tk]) (tokens g' q' (s.drop q')) := by
          rw [HR1.out, hg', tokens_on HQ.out hql (by rw [← HL.out]; exact HLB.out.symm), ← HL.out, ← HQ'.out, cont_cont, HTKE.out]
        have HFIN := Lib.hid (And.intro hcur6 (And.intro hfr6 (And.intro hown7 hR6)))
        clear hcur6 hfr6 hown7 hR6 hgrow6 hown6 hat6 hown5 hoc hox t0 t1 t2 t3 t4 tf4 hob
        go_wp2_with fail
        go_roundg g'
        case measure => omega
        case rel => exact ⟨q', acc ++ [tk], hq4, by omega, Lib.hid ⟨HFIN.out.1, HFIN.out.2.1, HFIN.out.2.2.1, by simp; omega, HFIN.out.2.2.2⟩⟩
    · obtain rfl : bq = false := by rw [hbq]; simpa using hql
      clear hbq
      go_wp2_with fail
      refine HSK.out.mono ?_
      rintro e w2 ⟨rfl, hc2, hf2⟩
      have hfin : TokensPost X s.length w R (.returned (.tuple #[u6, .int .i64 0, .int .i64 0])) w2 := by
        refine ⟨HF1.out.trans (hf2.mono fun _ h => .inl h), ?_⟩
        obtain ⟨g', rfl⟩ : ∃ g', gk = g' + 1 := ⟨gk - 1, by omega⟩
        rw [HR1.out, tokens_end HQ.out hql]
        exact ⟨u6, rfl, by simpa [cont] using ownsRow_block HO.out fun k hk => hf2.block k (.inr hk)⟩
      have HFIN := Lib.hid hfin
      clear hc2 hf2 hfin
      go_wp2_with fail
      go_ret3
      exact HFIN.out
end Go.Proofs.YtkaeceedofmhbaaGreatDoor
namespace Go.Proofs.YtkaeceedofmhbaaGreatDoor
open Go.RowKit Bk

def wordCls (c : UInt8) : Bool := cls c == 3 || cls c == 4

theorem wordByte_c (c : UInt8) (w : World) (h : Glob w) :
    Calls Tryz.prog 125 #[.int .u8 (c.toNat : Int)] w fun e w' => e = .returned (.bool (wordCls c)) ∧ w = w' := by
  have HC := Lib.hid (class_c c w h)
  unfold wordCls
  obtain ⟨k, hk⟩ : ∃ k, k = cls c := ⟨_, rfl⟩
  rw [← hk] at HC ⊢
  have e3 : ((k : Int) == 3) = (k == 3) := by rw [Bool.eq_iff_iff]; simp; omega
  have e4 : ((k : Int) == 4) = (k == 4) := by rw [Bool.eq_iff_iff]; simp; omega
  clear hk h
  by_cases h3 : k = 3
  · subst h3
    clear e3 e4
    go_enter Tryz.func125, Tryz.ntmps125
    go_wp2_with fail
    refine HC.out.mono ?_
    rintro e w' ⟨rfl, rfl⟩
    go_wp2_with fail
    go_ret
    exact ⟨rfl, rfl⟩
  · have b3 : (k == 3) = false := by simpa using h3
    rw [b3] at e3 ⊢
    clear b3 h3
    have E4 := Lib.hid e4
    clear e4
    go_enter Tryz.func125, Tryz.ntmps125
    go_wp2_with fail
    refine HC.out.mono ?_
    rintro e w' ⟨rfl, rfl⟩
    go_wp2_with fail
    refine HC.out.mono ?_
    rintro e w' ⟨rfl, rfl⟩
    go_wp2_with fail
    go_ret
    exact ⟨by rw [E4.out]; rfl, rfl⟩

def legalP (x : Nat) : Bool := decide (127 < x) || !wordCls (UInt8.ofNat x)

theorem legal1_c (x : Nat) (hx : x ≤ 1114111) (w : World) (h : Glob w) :
    Calls Tryz.prog 124 #[.int .i32 (x : Int)] w fun e w' => e = .returned (.bool (legalP x)) ∧ w = w' := by
  unfold legalP
  by_cases h1 : 127 < x
  · have e1 : decide ((x : Int) > 127) = true := by simp; omega
    rw [decide_eq_true h1]
    clear h1 h
    go_enter Tryz.func124, Tryz.ntmps124
    go_wp2_with fail
    go_ret
    exact ⟨rfl, rfl⟩
  · have e1 : decide ((x : Int) > 127) = false := by simp; omega
    rw [decide_eq_false h1]
    have hx8 : (UInt8.ofNat x).toNat = x := by rw [UInt8.toNat_ofNat']; omega
    have HC := Lib.hid (wordByte_c (UInt8.ofNat x) w h)
    rw [hx8] at HC
    obtain ⟨b, hb⟩ : ∃ b, b = wordCls (UInt8.ofNat x) := ⟨_, rfl⟩
    rw [← hb] at HC ⊢
    have h0 : (0 : Int) ≤ (x : Int) := Int.natCast_nonneg _
    have h127 : (x : Int) ≤ 127 := by omega
    clear h1 h hb hx8
    cases b
    all_goals
      go_enter Tryz.func124, Tryz.ntmps124
      go_wp2_with fail
      refine HC.out.mono ?_
      rintro e w' ⟨rfl, rfl⟩
      go_wp2_with fail
      go_ret
      exact ⟨rfl, rfl⟩

theorem decode_high (s : ByteArray) (pos : Nat) (h : ¬ (s.get! pos).toNat < 128) : 127 < (Utf8.decode s pos).1 := by
  unfold Utf8.decode Utf8.runeError
  simp only [Nat.add_zero]
  rw [if_neg h]
  repeat' split
  all_goals simp_all
  all_goals omega

theorem idxFrom_legal (s : Bytes) : ∀ (f pos : Nat), s.length - pos ≤ f → (0 ≤ Lib.idxFuncFrom legalP true ⟨s.toArray⟩ f pos ↔ (s.drop pos).all wordCls = false)
  | 0, pos, h => by
    rw [List.drop_eq_nil_of_le (by omega)]
    simp [Lib.idxFuncFrom]
  | f + 1, pos, h => by
    unfold Lib.idxFuncFrom
    have hsz : (⟨s.toArray⟩ : ByteArray).size = s.length := by simp [ByteArray.size]
    by_cases hp : pos < s.length
    · rw [if_pos (by rw [hsz]; exact hp), drop_cons hp, List.all_cons]
      have hget : (⟨s.toArray⟩ : ByteArray)[pos]'(by rw [hsz]; exact hp) = s[pos] := rfl
      by_cases ha : s[pos].toNat < 128
      · rw [decode_ascii _ pos (by rw [hsz]; exact hp) (by rw [hget]; exact ha), hget]
        have e : legalP s[pos].toNat = !wordCls s[pos] := by
          unfold legalP
          rw [decide_eq_false (by omega), UInt8.ofNat_toNat]
          rfl
        dsimp only
        rw [e]
        cases hw : wordCls s[pos] with
        | true =>
          rw [if_neg (by simp), idxFrom_legal s f (pos + 1) (by omega)]
          simp
        | false => simp
      · have hh := decode_high ⟨s.toArray⟩ pos (by
          have e : (⟨s.toArray⟩ : ByteArray).get! pos = s[pos] := by
            show s.toArray[pos]! = _
            simp [hp]
          rw [e]; exact ha)
        have e : legalP (Utf8.decode ⟨s.toArray⟩ pos).1 = true := by unfold legalP; rw [decide_eq_true hh]; rfl
        rw [if_pos e]
        have hw : wordCls s[pos] = false := by
          unfold wordCls cls classTab
          rw [List.getD_eq_getElem?_getD, List.getElem?_eq_none (by simp; omega)]
          rfl
        simp [hw]
    · rw [if_neg (by rw [hsz]; exact hp), List.drop_eq_nil_of_le (by omega)]
      simp

theorem legal1_enters : ∀ args w, (callFunc 124 args).run Tryz.prog w = .ok (.enter 124 args) w := by
  obtain ⟨c, hc⟩ : ∃ c, Tryz.f124.body = some c := Option.isSome_iff_exists.1 (by kernel_rfl)
  exact enters_of Tryz.func124 (by kernel_rfl) hc

theorem legal_c (v : Bytes) (w : World) (hg : Glob w) (hlow : low ≤ w.heap.size) :
    Calls Tryz.prog 78 #[str v] w fun e w' => e = .returned (.bool (legal v)) ∧ Below w.heap.size w w' := by
  have HG := Lib.hid hg
  cases v with
  | nil =>
    clear hg hlow
    go_enter Tryz.func78, Tryz.ntmps78
    go_wp2_with fail
    go_ret
    exact ⟨rfl, Below.refl _ _⟩
  | cons c r =>
    obtain ⟨T, hT⟩ : ∃ T, T = legal (c :: r) := ⟨_, rfl⟩
    rw [← hT]
    have HT := Lib.hid (show T = (decide ((c :: r).length ≤ 32) && cls c == 4 && reserved (c :: r) == 0 && (c :: r).all wordCls) from hT)
    have HRS := Lib.hid (reserved_c (c :: r) w hg)
    have HCL := Lib.hid (class_c c w hg)
    have HIX := Lib.hid (idxFrom_legal (c :: r) (c :: r).length 0 (by simp))
    obtain ⟨sb, hsb⟩ : ∃ sb : ByteArray, sb = ⟨(c :: r).toArray⟩ := ⟨_, rfl⟩
    have hs0 : 0 < sb.size := by rw [hsb]; show 0 < (c :: r).toArray.size; simp
    have hsz : sb.size = (c :: r).length := by rw [hsb]; simp [ByteArray.size]
    have hb0 : sb[0] = c := by subst hsb; rfl
    have HSB := Lib.hid hsb
    rw [show (str (c :: r) : Value) = .string sb by rw [hsb]] at HRS ⊢
    rw [← hb0] at HCL
    have HSZ := Lib.hid hsz
    have HB0 := Lib.hid hb0
    clear hT hsb hsz hb0 hg
    by_cases h32 : sb.size ≤ 32
    · have d1 : decide ((sb.size : Int) < 1) = false := by simp; omega
      have d2 : decide (32 < (sb.size : Int)) = false := by simp; omega
      have H32 := Lib.hid h32
      have hk0 := HB0.out
      obtain ⟨k, hk⟩ : ∃ k, k = cls sb[0] := ⟨_, rfl⟩
      rw [← hk] at HCL
      have HK := Lib.hid (show k = cls c by rw [hk, hk0])
      clear hk hk0 h32
      by_cases h4 : k = 4
      · subst h4
        obtain ⟨q, hq⟩ : ∃ q, q = reserved (c :: r) := ⟨_, rfl⟩
        rw [← hq] at HRS HT
        clear hq
        by_cases hq : q = 0
        · subst hq
          have hp : PredGrows Tryz.prog 124 #[] legalP (w.alloc wordsObj) := fun W x hx hb => by
            have hgW : Glob W := HG.out.keep fun k hk => (hb.block k (by simp; omega)).trans (Below.heap_alloc w _ k (by omega))
            refine (legal1_c x hx W hgW).mono ?_
            rintro e w' ⟨rfl, rfl⟩
            exact ⟨rfl, Below.refl _ _⟩
          have HCF := Lib.hid (Tryz.strings_ContainsFunc_grows 124 #[] legal1_enters legalP sb (w.alloc wordsObj) hp)
          obtain ⟨cf, hcf⟩ : ∃ cf, cf = decide (0 ≤ Lib.idxFunc legalP true sb) := ⟨_, rfl⟩
          rw [← hcf] at HCF
          have hT2 : T = !cf := by
            rw [HT.out, ← HK.out, hcf]
            have h32 : decide ((c :: r).length ≤ 32) = true := by rw [← HSZ.out]; simpa using H32.out
            rw [h32]
            have e := HIX.out
            rw [List.drop_zero] at e
            have e2 : (0 ≤ Lib.idxFunc legalP true sb) ↔ (c :: r).all wordCls = false := by
              unfold Lib.idxFunc
              rw [HSZ.out, HSB.out]; exact e
            cases ha : (c :: r).all wordCls with
            | true =>
              have : ¬ (0 ≤ Lib.idxFunc legalP true sb) := fun h => by rw [e2, ha] at h; cases h
              simp [this]
            | false =>
              have : (0 ≤ Lib.idxFunc legalP true sb) := e2.2 ha
              simp [this]
          have HT2 := Lib.hid hT2
          clear hp hcf hT2
          go_enter Tryz.func78, Tryz.ntmps78
          go_wp2_with fail
          refine HCL.out.mono ?_
          rintro e w1 ⟨rfl, rfl⟩
          go_wp2_with fail
          refine HRS.out.mono ?_
          rintro e w1 ⟨rfl, rfl⟩
          go_wp2_with fail
          refine HCF.out.mono ?_
          rintro e w1 ⟨rfl, hb⟩
          have HB := Lib.hid (((Below.refl w.heap.size w).alloc (Nat.le_refl _) wordsObj).trans (hb.mono (by simp)))
          clear hb
          go_wp2_with fail
          go_ret
          exact ⟨by rw [HT2.out]; rfl, HB.out⟩
        · have hT2 : T = false := by
            rw [HT.out]
            have : (q == 0) = false := by simpa using hq
            rw [this]; simp
          have HT2 := Lib.hid hT2
          have hb : ((q : Int) == 0) = false := by rw [beq_eq_false_iff_ne]; omega
          have hb2 : ((q : Int) != 0) = true := by rw [bne_iff_ne]; omega
          clear hT2 hq
          go_enter Tryz.func78, Tryz.ntmps78
          go_wp2_with fail
          refine HCL.out.mono ?_
          rintro e w1 ⟨rfl, rfl⟩
          go_wp2_with fail
          refine HRS.out.mono ?_
          rintro e w1 ⟨rfl, rfl⟩
          go_wp2_with fail
          go_ret
          exact ⟨by rw [HT2.out]; rfl, (Below.refl w.heap.size w).alloc (Nat.le_refl _) wordsObj⟩
      · have hT2 : T = false := by
          rw [HT.out, ← HK.out]
          have : (k == 4) = false := by simpa using h4
          rw [this]; simp
        have HT2 := Lib.hid hT2
        have hb2 : ((k : Int) != 4) = true := by rw [bne_iff_ne]; omega
        clear hT2 h4
        go_enter Tryz.func78, Tryz.ntmps78
        go_wp2_with fail
        refine HCL.out.mono ?_
        rintro e w1 ⟨rfl, rfl⟩
        go_wp2_with fail
        go_ret
        exact ⟨by rw [HT2.out]; rfl, Below.refl _ _⟩
    · have h33 : 32 < sb.size := by omega
      go_enter Tryz.func78, Tryz.ntmps78
      go_wp2_with fail
      go_ret
      exact ⟨by rw [HT.out, ← HSZ.out, decide_eq_false h32]; rfl, Below.refl _ _⟩
end Go.Proofs.YtkaeceedofmhbaaGreatDoor
