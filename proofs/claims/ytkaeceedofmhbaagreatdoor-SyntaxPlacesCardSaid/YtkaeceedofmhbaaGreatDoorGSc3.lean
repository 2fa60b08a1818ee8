/-
  scan: the cursor in memory; class, is, more.
  scan: skip.
  scan: more.
-/
import Derived.Test.YtkaeceedofmhbaaGreatDoorGGrow
import Derived.Deep.QuietTactic
import Derived.BigQuiet
import Derived.OwnWalk
import Derived.Deep.LoopGhost
import Derived.Laws.Externs
namespace Go.Proofs.YtkaeceedofmhbaaGreatDoor
open Go.RowKit Bk

theorem class_c (c : UInt8) (w : World) (h : Glob w) :
    Calls Tryz.prog 58 #[.int .u8 (c.toNat : Int)] w fun e w' => e = .returned (.int .u8 (cls c : Int)) ∧ w = w' := by
  have hlt := c.toNat_lt
  by_cases hc : 127 < c.toNat
  · have e : cls c = 0 := by
      unfold cls classTab
      rw [List.getD_eq_getElem?_getD, List.getElem?_eq_none (by simp; omega)]
      rfl
    have h' : 127 < (c.toNat : Int) := by omega
    rw [e]
    clear h hc e
    go_enter Tryz.func58, Tryz.ntmps58
    go_wp2
    go_ret
    exact ⟨rfl, rfl⟩
  · have h1 := h.classes c.toNat (by omega)
    have h2 : ¬ 127 < (c.toNat : Int) := by omega
    have e : cls c = classTab.getD c.toNat 0 := rfl
    rw [e]
    generalize classTab.getD c.toNat 0 = k at h1
    clear h hc e
    go_enter Tryz.func58, Tryz.ntmps58
    go_wp2
    go_ret
    exact ⟨rfl, rfl⟩

/-- A cursor at its block. -/
structure Cur (X : Nat → Prop) (w : World) (c : Nat) (sv : Value) (s : Bytes) (at_ : Nat) : Prop where
  blk : w.heap[c]? = some (.cells #[sv, .int .i64 at_] 73 (0, 0))
  txt : Txt X w sv s
  atl : at_ ≤ s.length
  slen : s.length ≤ 1048576
  xc : ¬ X c
  xlt : ∀ k, X k → k < w.heap.size
  glob : Glob w
  gx : ∀ k, k < low → X k

section
variable {X : Nat → Prop} {w : World} {c : Nat} {sv : Value} {s : Bytes} {at_ : Nat}

theorem Cur.world (h : Cur X w c sv s at_) {w' : World} (hs : w.heap.size ≤ w'.heap.size) (hc : w'.heap[c]? = w.heap[c]?) (b : ∀ k, X k → w'.heap[k]? = w.heap[k]?) : Cur X w' c sv s at_ :=
  ⟨by rw [hc]; exact h.blk, h.txt.keep b, h.atl, h.slen, h.xc, fun k hk => Nat.lt_of_lt_of_le (h.xlt k hk) hs, h.glob.keep fun k hk => b k (h.gx k hk), h.gx⟩
theorem Cur.drewN (h : Cur X w c sv s at_) (n : Nat) : Cur X (w.drewN n) c sv s at_ := h.world (Nat.le_refl _) rfl fun _ _ => rfl
theorem Cur.alloc (h : Cur X w c sv s at_) (o : Obj) : Cur X (w.alloc o) c sv s at_ :=
  h.world (by simp) (Below.heap_alloc _ _ _ (lt_of_block h.blk)) fun k hk => Below.heap_alloc _ _ _ (h.xlt k hk)
theorem Cur.c0 (h : Cur X w c sv s at_) : w.cell? ⟨c, 0, none⟩ = some sv := cell_of_blk (cs := [sv, .int .i64 at_]) h.blk 0
theorem Cur.c1 (h : Cur X w c sv s at_) : w.cell? ⟨c, 1, none⟩ = some (.int .i64 at_) := cell_of_blk (cs := [sv, .int .i64 at_]) h.blk 1
theorem Cur.free (h : Cur X w c sv s at_) (i : Nat) : w.frozen? ⟨c, i, none⟩ = false := free_of_blk h.blk i
/-- The cursor goes on. -/
theorem Cur.set (h : Cur X w c sv s at_) (b : Nat) (hb : b ≤ s.length) : Cur X (w.setCell ⟨c, 1, none⟩ (.int .i64 b)) c sv s b := by
  have hx : ∀ k, X k → (w.setCell ⟨c, 1, none⟩ (.int .i64 b)).heap[k]? = w.heap[k]? := fun k hk => Below.heap_setCell _ _ _ _ (fun e => h.xc ((show k = c from e) ▸ hk))
  refine ⟨?_, h.txt.keep hx, hb, h.slen, h.xc, fun k hk => by simpa [World.setCell] using h.xlt k hk, h.glob.keep fun k hk => hx k (h.gx k hk), h.gx⟩
  have := blk_set (w := w) (cs := [sv, .int .i64 at_]) h.blk 1 (.int .i64 b)
  simpa using this

theorem Cur.step (h : Cur X w c sv s at_) (hb : at_ + 1 ≤ s.length) : Cur X (w.setCell ⟨c, 1, none⟩ (.int .i64 ((at_ : Int) + 1))) c sv s (at_ + 1) := by
  have := h.set (at_ + 1) hb
  simpa using this

/-- A text that is not empty: its address, its bytes. -/
theorem Cur.shows (h : Cur X w c sv s at_) (hl : at_ < s.length) : ∃ b off cap, sv = .slice (some ⟨b, off, none⟩) s.length cap ∧ X b ∧ s.length ≤ cap ∧ cap ≤ maxLen ∧
    ∀ i (h : i < s.length), w.cell? ⟨b, off + i, none⟩ = some (.int .u8 (s[i].toNat : Int)) := by
  obtain ⟨a, cap, e, h1, h2, h3⟩ := h.txt
  obtain ⟨b, off, ha, hx, hc⟩ := h3 (by intro e; simp [e] at hl)
  exact ⟨b, off, cap, by rw [e, ha], hx, h1, h2, hc⟩
theorem Cur.slice (h : Cur X w c sv s at_) : ∃ a cap, sv = .slice a s.length cap := by
  obtain ⟨a, cap, e, h1, h2, h3⟩ := h.txt; exact ⟨a, cap, e⟩
end

theorem drop_cons {s : Bytes} {i : Nat} (h : i < s.length) : s.drop i = s[i] :: s.drop (i + 1) := List.drop_eq_getElem_cons h
theorem isCls_at {s : Bytes} {i k : Nat} (h : i < s.length) : isCls k (s.drop i) = (cls s[i] == k) := by rw [drop_cons h]; rfl
theorem isCls_end {s : Bytes} {i k : Nat} (h : ¬ i < s.length) : isCls k (s.drop i) = false := by rw [List.drop_eq_nil_of_le (by omega)]; rfl

theorem is_c {X : Nat → Prop} {w : World} {c : Nat} {sv : Value} {s : Bytes} {at_ : Nat} (k : Nat) (h : Cur X w c sv s at_) :
    Calls Tryz.prog 57 #[.pointer (some ⟨c, 0, none⟩), .int .u8 k] w fun e w' => e = .returned (.bool (isCls k (s.drop at_))) ∧ ∃ n, w' = w.drewN n := by
  have h0 := h.c0
  have h1 := h.c1
  have hlen := h.slen
  by_cases hl : at_ < s.length
  · obtain ⟨b, off, cap, rfl, hx, hc1, hc2, hbs⟩ := h.shows hl
    have hb := hbs at_ hl
    rw [isCls_at hl]
    have e : (cls s[at_] == k) = ((cls s[at_] : Int) == (k : Int)) := by rw [Bool.eq_iff_iff]; simp; omega
    rw [e]
    have HG := Lib.hid h.glob
    have hl' : decide (at_ < s.length) = true := by simpa using hl
    clear h e hbs hx
    generalize s[at_] = ch at *
    generalize s.length = len at *
    go_enter Tryz.func57, Tryz.ntmps57
    go_wp2
    go_quiet ((go_at_call 58; exact Calls.quiet_of_same ((class_c ch _ (by exact HG.out.keep fun _ _ => rfl)).mono (by rintro e w' ⟨rfl, rfl⟩; exact ⟨rfl, rfl⟩))))
    go_wp2
    go_ret
    exact ⟨rfl, _, rfl⟩
  · obtain ⟨a, cap, rfl⟩ := h.slice
    rw [isCls_end hl]
    have hl' : decide (at_ < s.length) = false := by simpa using hl
    clear h
    generalize s.length = len at *
    go_enter Tryz.func57, Tryz.ntmps57
    go_wp2
    go_quiet (fail)
    go_wp2
    go_ret
    exact ⟨rfl, _, rfl⟩
end Go.Proofs.YtkaeceedofmhbaaGreatDoor
namespace Go.Proofs.YtkaeceedofmhbaaGreatDoor
open Go.RowKit Bk

theorem cls_ten {c : UInt8} (h : c = 10) : cls c = 1 := by subst h; rfl
theorem cls_hash {c : UInt8} (h : cls c = 2) : c ≠ 10 := by rintro rfl; simp [cls, classTab] at h

theorem blanks_end {b : Bool} {s : Bytes} {i : Nat} (h : ¬ i < s.length) : blanks b (s.drop i) = 0 := by rw [List.drop_eq_nil_of_le (by omega)]; cases b <;> rfl
theorem blanks_blank {s : Bytes} {i : Nat} (h : i < s.length) (hc : cls s[i] = 1) : blanks false (s.drop i) = blanks false (s.drop (i + 1)) + 1 := by rw [drop_cons h, blanks, if_pos hc]
theorem blanks_other {s : Bytes} {i : Nat} (h : i < s.length) (h1 : ¬ cls s[i] = 1) (h2 : ¬ cls s[i] = 2) : blanks false (s.drop i) = 0 := by rw [drop_cons h, blanks, if_neg h1, if_neg h2]
theorem blanks_hash {s : Bytes} {i : Nat} (h : i < s.length) (hc : cls s[i] = 2) : blanks false (s.drop i) = blanks true (s.drop i) := by
  rw [drop_cons h, blanks, if_neg (by omega), if_pos hc, blanks, if_neg (cls_hash hc)]
theorem blanks_in {s : Bytes} {i : Nat} (h : i < s.length) (hc : s[i] ≠ 10) : blanks true (s.drop i) = blanks true (s.drop (i + 1)) + 1 := by rw [drop_cons h, blanks, if_neg hc]
theorem blanks_out {s : Bytes} {i : Nat} (h : i < s.length) (hc : s[i] = 10) : blanks true (s.drop i) = blanks false (s.drop i) := by
  rw [drop_cons h, hc]; rfl
theorem blanks_le : ∀ (s : Bytes) (b : Bool), blanks b s ≤ s.length
  | [], b => by cases b <;> simp [blanks]
  | c :: r, false => by
    have h1 := blanks_le r false
    have h2 := blanks_le r true
    simp only [blanks, List.length_cons]
    split
    · omega
    · split <;> omega
  | c :: r, true => by
    have h1 := blanks_le r false
    have h2 := blanks_le r true
    simp only [blanks, List.length_cons]
    split <;> omega

set_option maxHeartbeats 800000 in
theorem skip_c {X : Nat → Prop} {w : World} {c : Nat} {sv : Value} {s : Bytes} {at_ : Nat} (h : Cur X w c sv s at_) :
    Calls Tryz.prog 32 #[.pointer (some ⟨c, 0, none⟩)] w fun e w' =>
      e = .returned (.bool (decide (at_ + blanks false (s.drop at_) < s.length))) ∧ Cur X w' c sv s (at_ + blanks false (s.drop at_)) ∧ Fr X w w' := by
  have H := Lib.hid h
  have hat := h.atl
  have hlen := h.slen
  clear h
  obtain ⟨B, hB⟩ : ∃ B, B = at_ + blanks false (s.drop at_) := ⟨_, rfl⟩
  rw [← hB]
  have HB := Lib.hid hB
  clear hB
  go_enter Tryz.func32, Tryz.ntmps32
  go_wp2_with fail
  go_loopg [] (s.length - at_ + 1) (fun g wr => ∃ j, j ≤ s.length ∧ s.length - j < g ∧ Hid (Cur X wr c sv s j ∧ Fr X w wr ∧ B = j + blanks false (s.drop j)))
  case atStart => exact ⟨at_, hat, by omega, ⟨H.out, Fr.refl _ _, HB.out⟩⟩
  case round =>
    obtain ⟨j, hj, hg, hrel⟩ := hrel
    obtain ⟨hcur, hfr, hb⟩ := hrel.out
    by_cases hl : j < s.length
    · by_cases h1 : cls s[j] = 1
      · -- a blank
        have a1 : isCls 1 (s.drop j) = true := by rw [isCls_at hl, h1]; rfl
        have a2 : isCls 2 (s.drop j) = false := by rw [isCls_at hl, h1]; rfl
        have HC := Lib.hid hcur
        have HF := Lib.hid hfr
        have HX := Lib.hid (show B = (j + 1) + blanks false (s.drop (j + 1)) by rw [hb, blanks_blank hl h1]; omega)
        clear hcur hfr hb hrel h1
        go_wp2_with fail
        refine (is_c 1 HC.out).mono ?_
        rintro e w1 ⟨rfl, n1, rfl⟩
        rw [a1]
        go_wp2_with fail
        refine (is_c 2 (HC.out.drewN n1)).mono ?_
        rintro e w2 ⟨rfl, n2, rfl⟩
        rw [a2]
        have c1 := HC.out.c1
        have f1 := HC.out.free 1
        go_wp2_with fail
        go_roundg (s.length - (j + 1) + 1)
        case measure => omega
        case rel => exact ⟨j + 1, by omega, by omega, ⟨by exact (HC.out.drewN (n1 + n2)).step (by omega), by exact ((HF.out.drewN _).setCell HC.out.xc _), HX.out⟩⟩
      · have a1 : isCls 1 (s.drop j) = false := by rw [isCls_at hl]; simpa using h1
        by_cases h2 : cls s[j] = 2
        · -- a comment
          have a2 : isCls 2 (s.drop j) = true := by rw [isCls_at hl, h2]; rfl
          have HC := Lib.hid hcur
          have HF := Lib.hid hfr
          have HX := Lib.hid (show B = j + blanks true (s.drop j) by rw [hb, blanks_hash hl h2])
          have HN := Lib.hid (cls_hash h2)
          clear hcur hfr hb hrel h1 h2
          obtain ⟨wo, rfl⟩ : ∃ wo : World, wo = wr := ⟨_, rfl⟩
          obtain ⟨go, rfl⟩ : ∃ go : Nat, go = gk := ⟨_, rfl⟩
          go_wp2_with fail
          refine (is_c 1 HC.out).mono ?_
          rintro e w1 ⟨rfl, n1, rfl⟩
          rw [a1]
          go_wp2_with fail
          refine (is_c 2 (HC.out.drewN n1)).mono ?_
          rintro e w2 ⟨rfl, n2, rfl⟩
          rw [a2]
          go_wp2_with fail
          refine (is_c 2 (HC.out.drewN (n1 + n2))).mono ?_
          rintro e w3 ⟨rfl, n3, rfl⟩
          rw [a2]
          go_wp2_with fail
          go_loopg [] (s.length - j + 1) (fun g wr => ∃ m, m ≤ s.length ∧ j ≤ m ∧ s.length - m < g ∧ Hid (Cur X wr c sv s m ∧ Fr X w wr ∧ B = m + blanks true (s.drop m) ∧ (m = j → s[j] ≠ 10)))
          case atStart => exact ⟨j, hj, by omega, by omega, ⟨by simpa using HC.out.drewN (n1 + n2 + n3), by exact HF.out.drewN _, HX.out, fun _ => HN.out⟩⟩
          case round =>
            obtain ⟨m, hm, hjm, hgm, hrel⟩ := hrel
            obtain ⟨hcur, hfr, hb, hne⟩ := hrel.out
            have c0 := hcur.c0
            have c1 := hcur.c1
            have f1 := hcur.free 1
            by_cases hlm : m < s.length
            · obtain ⟨b, off, cap, rfl, hx, hc1, hc2, hbs⟩ := hcur.shows hlm
              have hbm := hbs m hlm
              have hlt : decide (m < s.length) = true := by simpa using hlm
              by_cases h10 : s[m] = 10
              · have hmj : j < m := by
                  rcases Nat.lt_or_ge j m with h | h
                  · exact h
                  · exact absurd h10 (by have e : m = j := by omega
                                         subst e; exact hne rfl)
                rw [h10] at hbm
                have HC2 := Lib.hid hcur
                have HF2 := Lib.hid hfr
                have HX2 := Lib.hid (show B = m + blanks false (s.drop m) by rw [hb, blanks_out hlm h10])
                clear hcur hfr hb hrel hne hbs hx h10
                go_wp2_with fail
                go_quiet (fail)
                go_wp2_with fail
                go_roundg (s.length - m + 1)
                case measure => omega
                case rel => exact ⟨m, hm, by omega, ⟨by exact HC2.out.drewN _, by exact HF2.out.drewN _, HX2.out⟩⟩
              · have hnt : ((s[m].toNat : Int) != 10) = true := by
                  rw [bne_iff_ne]
                  intro e
                  exact h10 (UInt8.toNat_inj.1 (by show s[m].toNat = 10; omega))
                have HC2 := Lib.hid hcur
                have HF2 := Lib.hid hfr
                have HX2 := Lib.hid (show B = (m + 1) + blanks true (s.drop (m + 1)) by rw [hb, blanks_in hlm h10]; omega)
                generalize s[m].toNat = ch at hbm hnt
                clear hcur hfr hb hrel hne hbs hx h10
                go_wp2_with fail
                go_quiet (fail)
                go_wp2_with fail
                go_roundg (s.length - (m + 1) + 1)
                case measure => omega
                case rel => exact ⟨m + 1, by omega, by omega, by omega, ⟨by exact (HC2.out.drewN _).step (by omega), by exact ((HF2.out.drewN _).setCell HC2.out.xc _), HX2.out, fun e => by omega⟩⟩
            · obtain ⟨a, cap, rfl⟩ := hcur.slice
              have hlt : decide (m < s.length) = false := by simpa using hlm
              have HC2 := Lib.hid hcur
              have HF2 := Lib.hid hfr
              have HX2 := Lib.hid (show B = m + blanks false (s.drop m) by rw [hb, blanks_end hlm, blanks_end hlm])
              clear hcur hfr hb hrel hne
              go_wp2_with fail
              go_quiet (fail)
              go_wp2_with fail
              go_roundg (s.length - m + 1)
              case measure => omega
              case rel => exact ⟨m, hm, by omega, ⟨by exact HC2.out.drewN _, by exact HF2.out.drewN _, HX2.out⟩⟩
        · -- something else
          have a2 : isCls 2 (s.drop j) = false := by rw [isCls_at hl]; simpa using h2
          rw [blanks_other hl h1 h2, Nat.add_zero] at hb
          subst hb
          have hlt : decide (B < s.length) = true := by simpa using hl
          obtain ⟨a, cap, rfl⟩ := hcur.slice
          have c0 := hcur.c0
          have c1 := hcur.c1
          have HC := Lib.hid hcur
          have HF := Lib.hid hfr
          clear hcur hfr hrel h1 h2 HB
          go_wp2_with fail
          refine (is_c 1 HC.out).mono ?_
          rintro e w1 ⟨rfl, n1, rfl⟩
          rw [a1]
          go_wp2_with fail
          refine (is_c 2 (HC.out.drewN n1)).mono ?_
          rintro e w2 ⟨rfl, n2, rfl⟩
          rw [a2]
          go_wp2_with fail
          go_quiet (fail)
          go_wp2_with fail
          go_ret
          exact ⟨by rw [hlt]; rfl, by exact (HC.out.drewN _).drewN _, by exact (HF.out.drewN _).drewN _⟩
    · rw [blanks_end hl, Nat.add_zero] at hb
      subst hb
      have a1 := isCls_end (k := 1) hl
      have a2 := isCls_end (k := 2) hl
      have hlt : decide (B < s.length) = false := by simpa using hl
      obtain ⟨a, cap, rfl⟩ := hcur.slice
      have c0 := hcur.c0
      have c1 := hcur.c1
      have HC := Lib.hid hcur
      have HF := Lib.hid hfr
      clear hcur hfr hrel HB
      go_wp2_with fail
      refine (is_c 1 HC.out).mono ?_
      rintro e w1 ⟨rfl, n1, rfl⟩
      rw [a1]
      go_wp2_with fail
      refine (is_c 2 (HC.out.drewN n1)).mono ?_
      rintro e w2 ⟨rfl, n2, rfl⟩
      rw [a2]
      go_wp2_with fail
      go_quiet (fail)
      go_wp2_with fail
      go_ret
      exact ⟨by rw [hlt]; rfl, by exact (HC.out.drewN _).drewN _, by exact (HF.out.drewN _).drewN _⟩
end Go.Proofs.YtkaeceedofmhbaaGreatDoor
namespace Go.Proofs.YtkaeceedofmhbaaGreatDoor
open Go.RowKit Bk

def p64 : Nat := 18446744073709551616

theorem add64_run (x y : Nat) (w : World) :
    (callFunc 131 #[.int .u64 x, .int .u64 y, .int .u64 0]).run Tryz.prog w = .ok (.value (.tuple #[.int .u64 ((x + y) % p64 : Nat), .int .u64 ((x + y) / p64 : Nat)])) w := by
  rw [run_callFunc_extern (fn := Tryz.f131) (by kernel_rfl) (by kernel_rfl) (by kernel_rfl) (by kernel_rfl) (e := add64Entry) (by kernel_rfl), run_add64 x y 0 (by omega) (by omega) (by omega) (by omega)]
  simp only [Result.andThen, p64]
  congr 5 <;> omega

theorem mul64_c (n f : Nat) (hn : n < p64) (hf : f < p64) (w : World) :
    Calls Tryz.prog 130 #[.int .u64 n, .int .u64 f] w fun e w' => e = .returned (.tuple #[.int .u64 (n * f / p64 : Nat), .int .u64 (n * f % p64 : Nat)]) ∧ w = w' :=
  (Tryz.bits_Mul64 n f hn hf w).mono fun _ _ h => ⟨h.1, h.2.symm⟩

theorem more_c (n f d : Nat) (hn : n < p64) (hf : f < p64) (_hd : d < p64) (w : World) :
    Calls Tryz.prog 88 #[.int .u64 n, .int .u64 f, .int .u64 d] w fun e w' =>
      e = .returned (.tuple #[.int .u64 ((n * f % p64 + d) % p64 : Nat), .bool (decide (n * f + d < p64))]) ∧ w = w' := by
  have hM := Lib.hid (mul64_c n f hn hf)
  obtain ⟨hi, ehi⟩ : ∃ hi, n * f / p64 = hi := ⟨_, rfl⟩
  obtain ⟨lo, elo⟩ : ∃ lo, n * f % p64 = lo := ⟨_, rfl⟩
  rw [ehi, elo] at hM
  have hA := add64_run lo d
  obtain ⟨sum, esum⟩ : ∃ sum, (lo + d) % p64 = sum := ⟨_, rfl⟩
  obtain ⟨ca, eca⟩ : ∃ ca, (lo + d) / p64 = ca := ⟨_, rfl⟩
  rw [esum, eca] at hA
  rw [elo, esum]
  have hB : decide (n * f + d < p64) = (decide (hi = 0) && decide (ca = 0)) := by
    rw [Bool.eq_iff_iff]
    simp only [decide_eq_true_eq, Bool.and_eq_true]
    have := Nat.div_add_mod (n * f) p64
    have h1 := Nat.mod_lt (n * f) (show 0 < p64 by decide)
    rw [ehi, elo] at this
    rw [elo] at h1
    have h2 : ca = 0 ↔ lo + d < p64 := by rw [← eca]; exact Nat.div_eq_zero_iff_lt (by decide)
    constructor
    · intro h
      have h0 : hi = 0 := by
        rcases Nat.eq_zero_or_pos hi with h0 | h0
        · exact h0
        · have : p64 * 1 ≤ p64 * hi := Nat.mul_le_mul_left _ h0
          omega
      subst h0
      exact ⟨rfl, h2.2 (by omega)⟩
    · rintro ⟨rfl, h⟩
      have := h2.1 h
      omega
  rw [hB]
  clear hB ehi elo esum eca hn hf
  by_cases h0 : hi = 0
  · subst h0
    have e1 : (((0 : Nat) : Int) == 0) = true := rfl
    by_cases h1 : ca = 0
    · subst h1
      rw [show (decide ((0 : Nat) = 0) && decide ((0 : Nat) = 0)) = true from rfl]
      go_enter Tryz.func88, Tryz.ntmps88
      go_wp2_with fail
      refine (hM.out _).mono ?_
      rintro e w1 ⟨rfl, rfl⟩
      go_wp2_with fail
      go_ret2
      exact ⟨rfl, rfl⟩
    · have e2 : ((ca : Int) == 0) = false := by simp; omega
      rw [show (decide ((0 : Nat) = 0) && decide (ca = 0)) = false from by simp [h1]]
      clear h1
      go_enter Tryz.func88, Tryz.ntmps88
      go_wp2_with fail
      refine (hM.out _).mono ?_
      rintro e w1 ⟨rfl, rfl⟩
      go_wp2_with fail
      go_ret2
      exact ⟨rfl, rfl⟩
  · have e2 : ((hi : Int) == 0) = false := by simp; omega
    rw [show (decide (hi = 0) && decide (ca = 0)) = false from by simp [h0]]
    clear h0
    go_enter Tryz.func88, Tryz.ntmps88
    go_wp2_with fail
    refine (hM.out _).mono ?_
    rintro e w1 ⟨rfl, rfl⟩
    go_wp2_with fail
    go_ret2
    exact ⟨rfl, rfl⟩
end Go.Proofs.YtkaeceedofmhbaaGreatDoor
