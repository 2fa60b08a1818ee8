/-
  scan: word.
  scan: lexeme. Made by gen/sc19.py.
  scan: Tokens, the plain steps.
-/
import Derived.Test.YtkaeceedofmhbaaGreatDoorGSc15
import Derived.Test.YtkaeceedofmhbaaGreatDoorGSc11
import Derived.Deep.LoopGhost
import Derived.Test.YtkaeceedofmhbaaGreatDoorGSc10
import Derived.Test.YtkaeceedofmhbaaGreatDoorGSc13
import Derived.Test.YtkaeceedofmhbaaGreatDoorGSc17
namespace Go.Proofs.YtkaeceedofmhbaaGreatDoor
open Go.RowKit Bk

theorem run_end {s : Bytes} {i : Nat} (h : ¬ i < s.length) : run (s.drop i) = 0 := by rw [List.drop_eq_nil_of_le (by omega)]; rfl
theorem run_on {s : Bytes} {i : Nat} (h : i < s.length) (hc : cls s[i] = 3 ∨ cls s[i] = 4) : run (s.drop i) = run (s.drop (i + 1)) + 1 := by rw [drop_cons h, run, if_pos hc]
theorem run_stop {s : Bytes} {i : Nat} (h : i < s.length) (hc : ¬ (cls s[i] = 3 ∨ cls s[i] = 4)) : run (s.drop i) = 0 := by rw [drop_cons h, run, if_neg hc]
theorem run_le : ∀ s : Bytes, run s ≤ s.length
  | [] => Nat.le_refl _
  | c :: r => by
    have := run_le r
    rw [run, List.length_cons]
    split <;> omega

/-- Is it a byte of a word? -/
theorem run_is {s : Bytes} {i : Nat} : (isCls 4 (s.drop i) = true ∨ isCls 3 (s.drop i) = true) ↔ 0 < run (s.drop i) := by
  by_cases h : i < s.length
  · rw [isCls_at h, isCls_at h]
    by_cases hc : cls s[i] = 3 ∨ cls s[i] = 4
    · rw [run_on h hc]; simp; omega
    · rw [run_stop h hc]; simp; omega
  · rw [isCls_end h, isCls_end h, run_end h]; simp

def wordTok (t : Tok) (v : Bytes) : Tok := if reserved v = 0 then { t with kind := 1, s := v } else { t with kind := reserved v }

def WordPost (X : Nat → Prop) (c : Nat) (sv : Value) (s : Bytes) (p b : Nat) (t : Tok) (w0 : World) (k : Nat) (e : Ending) (w : World) : Prop :=
  e = .returned (.bool (decide (k ≤ 32))) ∧ Fr X w0 w ∧ (if k ≤ 32 then CT X w c sv s (p + k) b (wordTok t ((s.drop p).take k)) else CT X w c sv s (p + 32) b t)

section
variable {X : Nat → Prop} {c : Nat} {sv : Value} {s : Bytes} {p b : Nat} {t : Tok} {w0 : World}

theorem is_ct1 {w : World} {q : Nat} (k : Nat) (h : CT X w c sv s q b t) (hf : Fr X w0 w) :
    Calls Tryz.prog 57 #[.pointer (some ⟨c, 0, none⟩), .int .u8 k] w fun e w' => e = .returned (.bool (isCls k (s.drop q))) ∧ CT X w' c sv s q b t ∧ Fr X w0 w' :=
  (is_c k h.cur).mono fun _ _ ⟨he, n, hw⟩ => ⟨he, hw ▸ h.drewN n, hw ▸ hf.drewN n⟩

theorem slice_run {bb off n cap p j : Nat} (h1 : p ≤ j) (h2 : j ≤ cap) (h3 : p < cap) (W : World) :
    (Instr.slice 34 (.slice (some ⟨bb, off, none⟩) n cap) (some (.int .i64 (p : Int))) (some (.int .i64 (j : Int))) none).run Tryz.prog W = .ok (.slice (some ⟨bb, off + p, none⟩) (j - p) (cap - p)) W := by
  have he : Tryz.prog.elem 34 = 5 := by kernel_rfl
  rw [run_slice_lh W 34 (some ⟨bb, off, none⟩) n cap (by rw [he]; exact Tryz.underlying34) .i64 .i64 p j (by omega) (by omega) (by omega)]
  obtain ⟨i0, hi, hz0, hz1, hz2⟩ := info_parts info5
  have hne : ¬ cap = p := by omega
  simp [he, sizeOf, typeInfo, hi, hz1, Result.andThen, sliced, hne, Addr.add]

set_option maxHeartbeats 4000000 in
theorem word_c (w : World) (h : CT X w c sv s p b t) (hl : p < s.length) (h4 : cls s[p] = 4) :
    Calls Tryz.prog 60 #[.pointer (some ⟨c, 0, none⟩), .pointer (some ⟨b, 0, none⟩)] w (WordPost X c sv s p b t w (run (s.drop p))) := by
  have HC := Lib.hid h
  have hlen := h.cur.slen
  have c1 := h.cur.c1
  have hk1 : 0 < run (s.drop p) := by rw [run_on hl (.inr h4)]; omega
  have hkl : p + run (s.drop p) ≤ s.length := by have := run_le (s.drop p); simp at this; omega
  obtain ⟨K, hK⟩ : ∃ K, K = run (s.drop p) := ⟨_, rfl⟩
  rw [← hK] at hk1 hkl ⊢
  have HK := Lib.hid hK
  clear h h4 hK
  go_enter Tryz.func60, Tryz.ntmps60
  go_wp2_with fail
  go_loopg [] (s.length - p + 1) (fun g wr => ∃ j, p ≤ j ∧ j - p ≤ 32 ∧ s.length - j < g ∧ j ≤ s.length ∧ Hid (CT X wr c sv s j b t ∧ Fr X w wr ∧ K = j - p + run (s.drop j)))
  case atStart => exact ⟨p, Nat.le_refl _, by omega, by omega, by omega, Lib.hid ⟨HC.out, Fr.refl _ _, by rw [Nat.sub_self, Nat.zero_add]; exact HK.out⟩⟩
  case round =>
    obtain ⟨j, hpj, hj32, hg, hjl, hrel⟩ := hrel
    obtain ⟨hct, hfr, hk⟩ := hrel.out
    have HC1 := Lib.hid hct
    have HF1 := Lib.hid hfr
    have HK1 := Lib.hid hk
    clear hrel hct hfr hk c1
    by_cases hr : 0 < run (s.drop j)
    · have hjl' : j < s.length := Decidable.byContradiction fun hn => by rw [run_end hn] at hr; omega
      obtain ⟨b4, hb4⟩ : ∃ b4, isCls 4 (s.drop j) = b4 := ⟨_, rfl⟩
      have h3 : b4 = false → isCls 3 (s.drop j) = true := fun e => by
        rcases run_is.2 hr with h | h
        · rw [h] at hb4; subst hb4; cases e
        · exact h
      have hnx : Hid (run (s.drop j) = run (s.drop (j + 1)) + 1) := Lib.hid (by
        refine run_on hjl' ?_
        rcases run_is.2 hr with h | h
        · rw [isCls_at hjl'] at h; exact .inr (by simpa using h)
        · rw [isCls_at hjl'] at h; exact .inl (by simpa using h))
      have HR := Lib.hid hr
      clear hr
      have e1 : IntKind.i64.wrap ((j : Int) + 1) = (j : Int) + 1 := IntWalk.i64_in _ ⟨by omega, by omega⟩
      have e2 : IntKind.i64.wrap ((j : Int) - (p : Int)) = (j : Int) - (p : Int) := IntWalk.i64_in _ ⟨by omega, by omega⟩
      by_cases h32 : j - p = 32
      · have e3 : ((j : Int) - (p : Int) == 32) = true := by rw [beq_iff_eq]; omega
        cases b4 with
        | true =>
          go_wp2_with fail
          refine (is_ct1 4 HC1.out HF1.out).mono ?_
          rintro e w2 ⟨rfl, hct2, hfr2⟩
          rw [hb4]
          have c1 := hct2.cur.c1
          have f1 := hct2.cur.free 1
          have HC2 := Lib.hid hct2
          have HF2 := Lib.hid hfr2
          clear hct2 hfr2
          go_wp2_with fail
          go_ret
          have hk : ¬ K ≤ 32 := by have h1 := HK1.out; have h2 := HR.out; omega
          refine ⟨by simp [hk], HF2.out, ?_⟩
          rw [if_neg hk, show p + 32 = j from by omega]
          exact HC2.out
        | false =>
          have h3' := h3 rfl
          go_wp2_with fail
          refine (is_ct1 4 HC1.out HF1.out).mono ?_
          rintro e w1 ⟨rfl, hct1, hfr1⟩
          rw [hb4]
          have HCa := Lib.hid hct1
          have HFa := Lib.hid hfr1
          clear hct1 hfr1
          go_wp2_with fail
          refine (is_ct1 3 HCa.out HFa.out).mono ?_
          rintro e w2 ⟨rfl, hct2, hfr2⟩
          rw [h3']
          have c1 := hct2.cur.c1
          have f1 := hct2.cur.free 1
          have HC2 := Lib.hid hct2
          have HF2 := Lib.hid hfr2
          clear hct2 hfr2
          go_wp2_with fail
          go_ret
          have hk : ¬ K ≤ 32 := by have h1 := HK1.out; have h2 := HR.out; omega
          refine ⟨by simp [hk], HF2.out, ?_⟩
          rw [if_neg hk, show p + 32 = j from by omega]
          exact HC2.out
      · have e3 : ((j : Int) - (p : Int) == 32) = false := by rw [beq_eq_false_iff_ne]; omega
        cases b4 with
        | true =>
          go_wp2_with fail
          refine (is_ct1 4 HC1.out HF1.out).mono ?_
          rintro e w2 ⟨rfl, hct2, hfr2⟩
          rw [hb4]
          have c1 := hct2.cur.c1
          have f1 := hct2.cur.free 1
          have HC2 := Lib.hid hct2
          have HF2 := Lib.hid hfr2
          clear hct2 hfr2
          go_wp2_with fail
          go_roundg (s.length - (j + 1) + 1)
          case measure => omega
          case rel => exact ⟨j + 1, by omega, by omega, by omega, by omega, Lib.hid ⟨HC2.out.step (by omega), HF2.out.setCell HC2.out.cur.xc _, by have h1 := HK1.out; have h2 := hnx.out; omega⟩⟩
        | false =>
          have h3' := h3 rfl
          go_wp2_with fail
          refine (is_ct1 4 HC1.out HF1.out).mono ?_
          rintro e w1 ⟨rfl, hct1, hfr1⟩
          rw [hb4]
          have HCa := Lib.hid hct1
          have HFa := Lib.hid hfr1
          clear hct1 hfr1
          go_wp2_with fail
          refine (is_ct1 3 HCa.out HFa.out).mono ?_
          rintro e w2 ⟨rfl, hct2, hfr2⟩
          rw [h3']
          have c1 := hct2.cur.c1
          have f1 := hct2.cur.free 1
          have HC2 := Lib.hid hct2
          have HF2 := Lib.hid hfr2
          clear hct2 hfr2
          go_wp2_with fail
          go_roundg (s.length - (j + 1) + 1)
          case measure => omega
          case rel => exact ⟨j + 1, by omega, by omega, by omega, by omega, Lib.hid ⟨HC2.out.step (by omega), HF2.out.setCell HC2.out.cur.xc _, by have h1 := HK1.out; have h2 := hnx.out; omega⟩⟩
    · have h3 : isCls 3 (s.drop j) = false := by
        cases h : isCls 3 (s.drop j) with
        | false => rfl
        | true => exact absurd (run_is.1 (.inr h)) hr
      have h4 : isCls 4 (s.drop j) = false := by
        cases h : isCls 4 (s.drop j) with
        | false => rfl
        | true => exact absurd (run_is.1 (.inl h)) hr
      have hKj : K = j - p := by have := HK1.out; omega
      have hpj2 : p < j := by omega
      have HKJ := Lib.hid hKj
      clear hr hKj
      go_wp2_with fail
      refine (is_ct1 4 HC1.out HF1.out).mono ?_
      rintro e w1 ⟨rfl, hct1, hfr1⟩
      rw [h4]
      have HCa := Lib.hid hct1
      have HFa := Lib.hid hfr1
      clear hct1 hfr1
      go_wp2_with fail
      refine (is_ct1 3 HCa.out HFa.out).mono ?_
      rintro e w2 ⟨rfl, hct2, hfr2⟩
      rw [h3]
      obtain ⟨A, cap, hsv, hcap1, hcap2, hshow⟩ := hct2.cur.txt
      obtain ⟨bb, off, hA, hx, hbs⟩ := hshow (fun e => by rw [e] at hl; simp at hl)
      subst hA
      have c0 := hct2.cur.c0
      have c1 := hct2.cur.c1
      rw [hsv] at c0
      have HC2 := Lib.hid hct2
      have HF2 := Lib.hid hfr2
      have hsl : ∀ W, (Instr.slice 34 (.slice (some ⟨bb, off, none⟩) s.length cap) (some (.int .i64 (p : Int))) (some (.int .i64 (j : Int))) none).run Tryz.prog W = .ok (.slice (some ⟨bb, off + p, none⟩) (j - p) (cap - p)) W :=
        slice_run (by omega) (by omega) (by omega)
      have hcv : ∀ m, (convert 34 9 (.slice (some ⟨bb, off + p, none⟩) (j - p) (cap - p))).run Tryz.prog (w2.drewN m) = .ok (str ((s.drop p).take K)) (w2.drewN m) := fun m => by
        have := run_convert_bytes_arg (P := Tryz.prog) (w2.drewN m) 34 5 Tryz.underlying34 Tryz.underlying5 bb (off + p) (j - p) (cap - p) (bn ((s.drop p).take K)) (by rw [bn_length, HKJ.out]; simp; omega) (fun i hi => by
          have := hbs (p + i) (by omega)
          rw [show off + p + i = off + (p + i) from by omega]
          refine (this : (w2.drewN m).cell? _ = _).trans ?_
          have e : (bn ((s.drop p).take K)).getD i 0 = (s[p + i].toNat : Int) := by
            rw [HKJ.out]
            simp [bn, List.getD_eq_getElem?_getD, hi, List.getElem?_eq_getElem (show p + i < s.length by omega)]
          rw [e]) 9 Tryz.underlying9
        rwa [strOfNums_bn] at this
      have HBS := Lib.hid hbs
      have HSV := Lib.hid hsv
      clear hct2 hfr2 hbs hsv hx
      go_wp2_with fail
      go_quiet (fail)
      obtain ⟨v, hv⟩ : ∃ v, v = (s.drop p).take K := ⟨_, rfl⟩
      rw [← hv]
      have hk : K ≤ 32 := by have := HKJ.out; omega
      have HV := Lib.hid hv
      have hfin : ∀ w', Fr X w w' → CT X w' c sv s j b (wordTok t v) → WordPost X c sv s p b t w K (.returned (.bool true)) w' := fun w' h1 h2 => by
        refine ⟨by simp [hk], h1, ?_⟩
        rw [if_pos hk, ← HV.out, show p + K = j from by have := HKJ.out; omega]
        exact h2
      have HFIN := Lib.hid hfin
      clear hcv hsl hfin hv c0 c1
      go_wp2_with fail
      refine (reserved_c v _ (HC2.out.drewN nq).cur.glob).mono ?_
      rintro e w3 ⟨rfl, hw3⟩
      have hC3 : CT X w3 c sv s j b t := hw3 ▸ (HC2.out.drewN nq).alloc wordsObj
      have hF3 : Fr X w w3 := hw3 ▸ (HF2.out.drewN nq).alloc (HC2.out.drewN nq).cur.xlt wordsObj
      clear hw3
      have tf0 := hC3.tfree 0
      have tf2 := hC3.tfree 2
      have t0 : w3.cell? ⟨b, 0, none⟩ = some (.int .i64 t.kind) := hC3.cell 0
      have t2 : w3.cell? ⟨b, 2, none⟩ = some (str t.s) := hC3.cell 2
      have HC3 := Lib.hid hC3
      have HF3 := Lib.hid hF3
      clear hC3 hF3
      by_cases hq : reserved v = 0
      · have HQ := Lib.hid hq
        rw [hq]
        clear hq
        go_wp2_with fail
        go_ret
        refine HFIN.out _ (((HF3.out.setCell HC3.out.xb _).setCell HC3.out.xb _).setCell HC3.out.xb _) ?_
        unfold wordTok
        rw [if_pos HQ.out]
        exact ((HC3.out.put (t' := { t with kind := 0 }) 0 _ rfl).put (t' := { t with kind := 1 }) 0 _ rfl).put 2 _ rfl
      · have HQ := Lib.hid hq
        obtain ⟨rv, hrv⟩ : ∃ rv : Int, rv = (reserved v : Int) := ⟨_, rfl⟩
        rw [← hrv]
        have hne : (rv == 0) = false := by rw [beq_eq_false_iff_ne]; omega
        have HRV := Lib.hid hrv
        clear hq hrv
        go_wp2_with fail
        go_ret
        refine HFIN.out _ (HF3.out.setCell HC3.out.xb _) ?_
        unfold wordTok
        rw [if_neg HQ.out, ← HRV.out]
        exact HC3.out.put (t' := { t with kind := rv }) 0 _ rfl
end
end Go.Proofs.YtkaeceedofmhbaaGreatDoor
namespace Go.Proofs.YtkaeceedofmhbaaGreatDoor
open Go.RowKit Bk

def LexPost (X : Nat → Prop) (c : Nat) (sv : Value) (s : Bytes) (p b : Nat) (t : Tok) (w0 : World) (L : Bool × Int × Int × Bytes × Nat) (e : Ending) (w : World) : Prop :=
  e = .returned (.bool L.1) ∧ Fr X w0 w ∧ ∃ t', CT X w c sv s (p + L.2.2.2.2) b t' ∧ (L.1 = true → t' = { t with kind := L.2.1, n := L.2.2.1, s := L.2.2.2.1 })

theorem lexeme_at {s : Bytes} {p : Nat} (h : p < s.length) : lexeme (s.drop p) =
    (show Bool × Int × Int × Bytes × Nat from if cls s[p] = 3 then (let i := integer (s.drop p); (i.1, 2, i.2.1, [], i.2.2))
    else if cls s[p] = 4 then
      let k := run (s.drop p)
      if 32 < k then (false, 0, 0, [], 32)
      else let w := (s.drop p).take k; let q := reserved w; if q = 0 then (true, 1, 0, w, k) else (true, (q : Int), 0, [], k)
    else if cls s[p] = 5 then (let t := text [] 1 (s.drop (p + 1)); (t.1, 3, 0, t.2.1, t.2.2))
    else if cls s[p] = 6 then (let q := sign s[p] ((s.drop (p + 1)).headD 0); (decide (q.1 ≠ 0), q.1, 0, [], q.2))
    else (false, 0, 0, [], 0)) := by
  rw [drop_cons h]; rfl

section
variable {X : Nat → Prop} {c : Nat} {sv : Value} {s : Bytes} {p b : Nat} {t : Tok}

set_option maxHeartbeats 4000000 in
theorem lexeme_c (w : World) (h : CT X w c sv s p b t) (hl : p < s.length) (hn : t.n = 0) (hs : t.s = []) :
    Calls Tryz.prog 33 #[.pointer (some ⟨c, 0, none⟩), .pointer (some ⟨b, 0, none⟩)] w (LexPost X c sv s p b t w (lexeme (s.drop p))) := by
  have HC := Lib.hid h
  have hlen := h.cur.slen
  obtain ⟨bb, off, cap, hsv, hx, hc1, hc2, hbs⟩ := h.cur.shows hl
  have c0 := h.cur.c0
  have c1 := h.cur.c1
  have t0 : w.cell? ⟨b, 0, none⟩ = some (.int .i64 t.kind) := h.cell 0
  have tf := h.tfree 0
  have cb := hbs p hl
  rw [hsv] at c0
  have hp0 : (0 : Int) ≤ (p : Int) := Int.natCast_nonneg _
  have hp1 : (p : Int) < (s.length : Int) := by omega
  have HL := Lib.hid (lexeme_at hl)
  obtain ⟨L, hL⟩ : ∃ L, L = lexeme (s.drop p) := ⟨_, rfl⟩
  rw [← hL] at HL ⊢
  have HCL := fun w => Lib.hid (class_c s[p] w)
  obtain ⟨k, hk⟩ : ∃ k, k = cls s[p] := ⟨_, rfl⟩
  rw [← hk] at HL HCL
  have HK := Lib.hid hk
  have HN := Lib.hid hn
  have HS := Lib.hid hs
  generalize hch : s[p].toNat = ch at cb HCL
  have HCH := Lib.hid hch
  clear h hsv hx hc1 hc2 hbs hL hk hn hs hch
  by_cases h3 : k = 3
  · subst h3
    go_enter Tryz.func33, Tryz.ntmps33
    go_wp2_with fail
    go_quiet ((go_at_call 58; exact Calls.quiet_of_same (((HCL _).out (by exact HC.out.cur.glob.keep fun _ _ => rfl)).mono (by rintro e w' ⟨rfl, rfl⟩; exact ⟨rfl, rfl⟩))))
    go_wp2_with fail
    have hC1 := (HC.out.drewN nq).put (t' := { t with kind := 2 }) 0 (.int .i64 2) rfl
    have hF1 := ((Fr.refl X w).drewN nq).setCell (p := ⟨b, 0, none⟩) HC.out.xb (.int .i64 2)
    refine (integer_c _ hC1 hl).mono ?_
    rintro e w1 ⟨rfl, hf, v, hct, hv⟩
    have HCT := Lib.hid hct
    have HF := Lib.hid (hF1.trans hf)
    have hL := HL.out
    rw [if_pos trivial] at hL
    clear HL hct hf hF1 hC1
    obtain ⟨I, hI⟩ : ∃ I, I = integer (s.drop p) := ⟨_, rfl⟩
    rw [← hI] at hL HCT hv ⊢
    clear hI
    have HV := Lib.hid hv
    subst hL
    clear hv
    go_wp2_with fail
    go_ret
    exact ⟨rfl, HF.out, _, HCT.out, fun h => by rw [HV.out h, ← HS.out]⟩
  by_cases h4 : k = 4
  · subst h4
    go_enter Tryz.func33, Tryz.ntmps33
    go_wp2_with fail
    go_quiet ((go_at_call 58; exact Calls.quiet_of_same (((HCL _).out (by exact HC.out.cur.glob.keep fun _ _ => rfl)).mono (by rintro e w' ⟨rfl, rfl⟩; exact ⟨rfl, rfl⟩))))
    go_wp2_with fail
    refine (word_c _ (HC.out.drewN nq) hl HK.out.symm).mono ?_
    rintro e w1 ⟨rfl, hf, hct⟩
    have HCT := Lib.hid hct
    have HF := Lib.hid (((Fr.refl X w).drewN nq).trans hf)
    have hL := HL.out
    rw [if_neg (by decide), if_pos trivial] at hL
    clear HL hct hf
    obtain ⟨K, hK⟩ : ∃ K, K = run (s.drop p) := ⟨_, rfl⟩
    simp only [← hK] at hL HCT
    rw [← hK]
    clear hK
    by_cases h32 : 32 < K
    · rw [if_pos h32] at hL
      have H1 := HCT.out
      rw [if_neg (by omega)] at H1
      have HCT2 := Lib.hid H1
      have e1 : decide (K ≤ 32) = false := by simp; omega
      rw [e1]
      subst hL
      clear H1 e1 h32
      go_wp2_with fail
      go_ret
      exact ⟨rfl, HF.out, _, HCT2.out, fun h => by cases h⟩
    · rw [if_neg h32] at hL
      have H1 := HCT.out
      rw [if_pos (by omega)] at H1
      have HCT2 := Lib.hid H1
      have e1 : decide (K ≤ 32) = true := by simp; omega
      rw [e1]
      have HL := Lib.hid hL
      clear H1 e1 h32 hL
      go_wp2_with fail
      go_ret
      have hL := HL.out
      by_cases hq : reserved ((s.drop p).take K) = 0
      · simp only [if_pos hq] at hL
        subst hL
        refine ⟨rfl, HF.out, _, HCT2.out, fun _ => ?_⟩
        unfold wordTok
        rw [if_pos hq, ← HN.out]
      · simp only [if_neg hq] at hL
        subst hL
        refine ⟨rfl, HF.out, _, HCT2.out, fun _ => ?_⟩
        unfold wordTok
        rw [if_neg hq, ← HN.out, ← HS.out]
  by_cases h5 : k = 5
  · subst h5
    go_enter Tryz.func33, Tryz.ntmps33
    go_wp2_with fail
    go_quiet ((go_at_call 58; exact Calls.quiet_of_same (((HCL _).out (by exact HC.out.cur.glob.keep fun _ _ => rfl)).mono (by rintro e w' ⟨rfl, rfl⟩; exact ⟨rfl, rfl⟩))))
    go_wp2_with fail
    have hC1 := (HC.out.drewN nq).put (t' := { t with kind := 3 }) 0 (.int .i64 3) rfl
    have hF1 := ((Fr.refl X w).drewN nq).setCell (p := ⟨b, 0, none⟩) HC.out.xb (.int .i64 3)
    refine (text_c _ hC1 hl).mono ?_
    rintro e w1 ⟨rfl, hf, v, hct, hv⟩
    have HCT := Lib.hid hct
    have HF := Lib.hid (hF1.trans hf)
    have hL := HL.out
    rw [if_neg (by decide), if_neg (by decide), if_pos trivial] at hL
    clear HL hct hf hF1 hC1
    obtain ⟨I, hI⟩ : ∃ I, I = text [] 1 (s.drop (p + 1)) := ⟨_, rfl⟩
    rw [← hI] at hL HCT hv ⊢
    clear hI
    have HV := Lib.hid hv
    subst hL
    clear hv
    go_wp2_with fail
    go_ret
    exact ⟨rfl, HF.out, _, HCT.out, fun h => by rw [HV.out h, ← HN.out]⟩
  by_cases h6 : k = 6
  · subst h6
    go_enter Tryz.func33, Tryz.ntmps33
    go_wp2_with fail
    go_quiet ((go_at_call 58; exact Calls.quiet_of_same (((HCL _).out (by exact HC.out.cur.glob.keep fun _ _ => rfl)).mono (by rintro e w' ⟨rfl, rfl⟩; exact ⟨rfl, rfl⟩))))
    go_wp2_with fail
    refine (sign_c _ (HC.out.drewN nq) hl).mono ?_
    rintro e w1 ⟨rfl, hct, hf⟩
    have HCT := Lib.hid hct
    have HF := Lib.hid (((Fr.refl X w).drewN nq).trans hf)
    have hL := HL.out
    rw [if_neg (by decide), if_neg (by decide), if_neg (by decide), if_pos trivial] at hL
    clear HL hct hf
    obtain ⟨I, hI⟩ : ∃ I, I = sign s[p] ((s.drop (p + 1)).headD 0) := ⟨_, rfl⟩
    rw [← hI] at hL HCT ⊢
    clear hI
    subst hL
    go_wp2_with fail
    go_ret
    refine ⟨?_, HF.out, _, HCT.out, fun h => by rw [← HN.out, ← HS.out]⟩
    show Ending.returned (.bool (!decide (I.1 = 0))) = _
    simp
  have hL := HL.out
  rw [if_neg h3, if_neg h4, if_neg h5, if_neg h6] at hL
  subst hL
  have e3 : ((k : Int) == 3) = false := by rw [beq_eq_false_iff_ne]; omega
  have e4 : ((k : Int) == 4) = false := by rw [beq_eq_false_iff_ne]; omega
  have e5 : ((k : Int) == 5) = false := by rw [beq_eq_false_iff_ne]; omega
  have e6 : ((k : Int) == 6) = false := by rw [beq_eq_false_iff_ne]; omega
  clear HL h3 h4 h5 h6
  go_enter Tryz.func33, Tryz.ntmps33
  go_wp2_with fail
  go_quiet ((go_at_call 58; exact Calls.quiet_of_same (((HCL _).out (by exact HC.out.cur.glob.keep fun _ _ => rfl)).mono (by rintro e w' ⟨rfl, rfl⟩; exact ⟨rfl, rfl⟩))))
  go_wp2_with fail
  go_ret
  exact ⟨rfl, (Fr.refl X w).drewN nq, _, HC.out.drewN nq, fun h => by cases h⟩
end
end Go.Proofs.YtkaeceedofmhbaaGreatDoor
namespace Go.Proofs.YtkaeceedofmhbaaGreatDoor
open Go.RowKit Bk

/-- What has been read, ahead of what is left. -/
def cont (acc : List Tok) : Except Nat (List Tok) → Except Nat (List Tok)
  | .ok l => .ok (acc ++ l)
  | .error e => .error e
theorem cont_nil (r : Except Nat (List Tok)) : cont [] r = r := by cases r <;> rfl
theorem cont_cont (a b : List Tok) (r : Except Nat (List Tok)) : cont a (cont b r) = cont (a ++ b) r := by cases r <;> simp [cont]

section
variable {f j q : Nat} {s : Bytes}
theorem tokens_end (hq : q = j + blanks false (s.drop j)) (h : ¬ q < s.length) : tokens (f + 1) j (s.drop j) = .ok [] := by
  subst hq
  unfold tokens
  simp only [List.drop_drop]
  rw [List.drop_eq_nil_of_le (show s.length ≤ j + blanks false (s.drop j) by omega)]
  rfl
theorem tokens_bad (hq : q = j + blanks false (s.drop j)) (h : q < s.length) (hL : (lexeme (s.drop q)).1 = false) : tokens (f + 1) j (s.drop j) = .error (q + (lexeme (s.drop q)).2.2.2.2) := by
  subst hq
  have hne : (s.drop (j + blanks false (s.drop j))).isEmpty = false := by rw [drop_cons h]; rfl
  unfold tokens
  simp only [List.drop_drop, hne, hL, Bool.false_eq_true, if_false]
theorem tokens_on (hq : q = j + blanks false (s.drop j)) (h : q < s.length) (hL : (lexeme (s.drop q)).1 = true) :
    tokens (f + 1) j (s.drop j) = cont [{ kind := (lexeme (s.drop q)).2.1, n := (lexeme (s.drop q)).2.2.1, s := (lexeme (s.drop q)).2.2.2.1, at_ := q, end_ := (q + (lexeme (s.drop q)).2.2.2.2 : Nat) }]
      (tokens f (q + (lexeme (s.drop q)).2.2.2.2) (s.drop (q + (lexeme (s.drop q)).2.2.2.2))) := by
  subst hq
  have hne : (s.drop (j + blanks false (s.drop j))).isEmpty = false := by rw [drop_cons h]; rfl
  conv => lhs; unfold tokens
  simp only [List.drop_drop, hne, hL, Bool.false_eq_true, if_false, if_true]
  cases tokens f (j + blanks false (s.drop j) + (lexeme (s.drop (j + blanks false (s.drop j)))).2.2.2.2) (s.drop (j + blanks false (s.drop j) + (lexeme (s.drop (j + blanks false (s.drop j)))).2.2.2.2)) with
  | ok l => simp [cont]
  | error e => rfl
end
end Go.Proofs.YtkaeceedofmhbaaGreatDoor
