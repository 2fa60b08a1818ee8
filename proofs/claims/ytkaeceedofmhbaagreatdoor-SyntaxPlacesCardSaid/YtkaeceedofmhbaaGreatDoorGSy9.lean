/-
  syntax: fail.
  syntax: wordByte, reach1.
-/
import Derived.Test.YtkaeceedofmhbaaGreatDoorGSy7
import Derived.StillTailTactics
namespace Go.Proofs.YtkaeceedofmhbaaGreatDoor
open Go.RowKit Bk

theorem goesUp_on {st : St} {lex : Bytes} {n k : Nat} (h : goes st (lex.take (k + 1)) = true) : goesUp st lex (n + 1) k = goesUp st lex n (k + 1) := by rw [goesUp, if_pos h]
theorem goesUp_off {st : St} {lex : Bytes} {n k : Nat} (h : goes st (lex.take (k + 1)) = false) : goesUp st lex (n + 1) k = k := by rw [goesUp, if_neg (by rw [h]; simp)]

section
variable {X : Nat → Prop} {H : Frozen} {r : Nat} {sv : Value} {src : Bytes} {st : St} {w w1 : World}

set_option maxRecDepth 100000 in
set_option maxHeartbeats 1000000 in
theorem fail_text (h : RdOK X H w r sv src st) (hlt : st.at_ < st.to_) (hq : src[st.at_]'(Nat.lt_of_lt_of_le hlt h.tol) = 34) :
    Calls Tryz.prog 29 #[.pointer (some ⟨r, 0, none⟩)] w (fun e w' => e = .panicked [{ v := haltV (st.at_ + (if st.want.contains 3 then st.bad else 0)) 60, recovered := false }] ∧ Fr X w w') := by
  have hl : st.at_ < src.length := Nat.lt_of_lt_of_le hlt h.tol
  obtain ⟨a, cap, hsv, hc1, hc2, hshow⟩ := h.txt
  obtain ⟨b, off, rfl, hx, hbs⟩ := hshow (fun e => by rw [e] at hl; simp at hl)
  have c0 := h.c0
  have c1 := h.c1
  have c2 := h.c2
  have c8 := h.c8
  rw [hsv] at c0
  have cb := hbs st.at_ hl
  rw [hq] at cb
  have hslen := h.slen
  have hbad := h.badl
  have hto := h.tol
  obtain ⟨wa, wcap, g, hwv, hcells⟩ := want_shows h
  have hw := want_len h
  have RD0 := Lib.hid h
  have HCE := Lib.hid hcells
  have d1 : decide (st.at_ < st.to_) = true := by simpa using hlt
  have d2 : ((((34 : UInt8)).toNat : Int) == 34) = true := rfl
  obtain ⟨T, hT⟩ : ∃ T, T = haltV (st.at_ + (if st.want.contains 3 then st.bad else 0)) 60 := ⟨_, rfl⟩
  rw [← hT]
  have HTT := Lib.hid hT
  clear h hbs hx hshow hcells hq hsv hT
  go_enter Tryz.func29, Tryz.ntmps29
  go_wp2_with fail
  go_quiet (fail)
  go_wp2_with fail
  obtain ⟨W, hW⟩ : ∃ W, W = w.drewN nq := ⟨_, rfl⟩
  rw [← hW]
  have FR := Lib.hid (show Fr X w W by rw [hW]; exact (Fr.refl X w).drewN nq)
  have hce : ∀ k i, W.cell? ⟨k, i, none⟩ = w.cell? ⟨k, i, none⟩ := fun k i => by rw [hW]; rfl
  have e1 := (hce r 1).trans c1
  have e8 := (hce r 8).trans c8
  have HWE := Lib.hid hce
  clear hW hce c0 c1 c2 c8 cb hwv
  go_loop [2, 32] (fun s2 s32 => ∃ i : Nat, i ≤ st.want.length ∧ s32 = .int .i64 i ∧ s2 = .int .i64 (if (st.want.take i).contains 3 then (st.bad : Int) else 0)) (fun _ s => st.want.length - (intOf s).toNat)
  case atStart => exact ⟨0, by omega, rfl, rfl⟩
  case round =>
    obtain ⟨i, hi, rfl, rfl⟩ := hrel
    by_cases hli : i < st.want.length
    · obtain ⟨ha, hgl, hce⟩ := HCE.out i hli
      subst ha
      have ce := (HWE.out g i).trans hce
      obtain ⟨k, hk⟩ : ∃ k, k = st.want[i] := ⟨_, rfl⟩
      rw [← hk] at ce
      have HTK := Lib.hid (show st.want.take (i + 1) = st.want.take i ++ [k] by rw [List.take_succ_eq_append_getElem hli, hk])
      have b0 : (0 : Int) ≤ (i : Int) := Int.natCast_nonneg _
      have b1 : (i : Int) < (st.want.length : Int) := by omega
      have hi63 : i < 9223372036854775807 := Nat.lt_of_lt_of_le hli hw
      have dl : decide (i < st.want.length) = true := by simpa using hli
      obtain ⟨t, ht⟩ : ∃ t : Int, t = if (st.want.take i).contains 3 then (st.bad : Int) else 0 := ⟨_, rfl⟩
      rw [← ht]
      have HT := Lib.hid ht
      clear hce hk hgl ht
      by_cases h3 : k = 3
      · have d3 : (k == 3) = true := by simpa using h3
        have HEND := Lib.hid (show (.int .i64 (st.bad : Int) : Value) = .int .i64 (if (st.want.take (i + 1)).contains 3 then (st.bad : Int) else 0) by rw [HTK.out, h3]; simp)
        clear h3
        go_wp2_with fail
        go_round
        case rel => exact ⟨i + 1, by omega, by go_num, HEND.out⟩
        case measure => simp [intOf]; omega
      · have d3 : (k == 3) = false := by simpa using h3
        have HEND := Lib.hid (show (.int .i64 t : Value) = .int .i64 (if (st.want.take (i + 1)).contains 3 then (st.bad : Int) else 0) by
          rw [HTK.out, HT.out]
          have : ¬ (3 : Int) = k := fun e => h3 e.symm
          simp [this])
        clear h3
        go_wp2_with fail
        go_round
        case rel => exact ⟨i + 1, by omega, by go_num, HEND.out⟩
        case measure => simp [intOf]; omega
    · have dl : decide (i < st.want.length) = false := by simpa using hli
      have htk : st.want.take i = st.want := List.take_of_length_le (by omega)
      rw [htk]
      obtain ⟨t, ht⟩ : ∃ t : Nat, t = if st.want.contains 3 then st.bad else 0 := ⟨_, rfl⟩
      have ht2 : (if st.want.contains 3 then (st.bad : Int) else 0) = (t : Int) := by rw [ht]; split <;> rfl
      rw [ht2]
      have htl : t ≤ src.length := by rw [ht]; split <;> omega
      have e9 : IntKind.i64.wrap ((st.at_ : Int) + (t : Int)) = (st.at_ : Int) + (t : Int) := IntWalk.i64_in _ ⟨by omega, by omega⟩
      have HE := Lib.hid (show T = .iface 60 (.agg #[.int .i64 ((st.at_ : Int) + (t : Int)), .int .i64 60]) by rw [HTT.out, ← ht]; rfl)
      clear ht ht2 htk hli
      go_wp2_with fail
      exact ⟨rfl, by rw [HE.out], FR.out⟩

set_option maxRecDepth 100000 in
set_option maxHeartbeats 2000000 in
theorem fail_other (h : RdOK X H w r sv src st) (hno : ¬ (st.at_ < st.to_ ∧ (src.drop st.at_).head? = some 34)) :
    Calls Tryz.prog 29 #[.pointer (some ⟨r, 0, none⟩)] w (fun e w' => e = .panicked [{ v := haltV (st.at_ + goesUp st ((src.drop st.at_).take (st.to_ - st.at_)) (st.to_ - st.at_) 0) 60, recovered := false }] ∧ Fr X w w') := by
  obtain ⟨a, cap, hsv, hc1, hc2, hshow⟩ := h.txt
  have HSHOW := Lib.hid hshow
  have HSV := Lib.hid hsv
  have c0 := h.c0
  have c1 := h.c1
  have c2 := h.c2
  have hslen := h.slen
  have hto := h.tol
  have hat := h.ato
  have RD0 := Lib.hid h
  obtain ⟨lex, hlex⟩ : ∃ lex, lex = (src.drop st.at_).take (st.to_ - st.at_) := ⟨_, rfl⟩
  obtain ⟨n, hn⟩ : ∃ n, n = st.to_ - st.at_ := ⟨_, rfl⟩
  rw [← hlex, ← hn]
  obtain ⟨K, hK⟩ : ∃ K, K = goesUp st lex n 0 := ⟨_, rfl⟩
  rw [← hK]
  obtain ⟨T, hT⟩ : ∃ T, T = haltV (st.at_ + K) 60 := ⟨_, rfl⟩
  rw [← hT]
  have HLEX := Lib.hid (show lex = (src.drop st.at_).take n by rw [hn]; exact hlex)
  have HK := Lib.hid hK
  have HTT := Lib.hid hT
  have hnn : n + st.at_ = st.to_ := by omega
  rw [hsv] at c0
  clear h hlex hn hK hT hshow hsv
  by_cases hlt : st.at_ < st.to_
  · have d0 : decide (st.at_ < st.to_) = true := by simpa using hlt
    have hl0 : st.at_ < src.length := by omega
    obtain ⟨b0, off0, ha, hx, hbs⟩ := HSHOW.out (fun e => by rw [e] at hl0; simp at hl0)
    have cb := hbs st.at_ hl0
    have hne : src[st.at_] ≠ 34 := fun e => hno ⟨hlt, by rw [drop_cons hl0, e]; rfl⟩
    have d2 : ((src[st.at_].toNat : Int) == 34) = false := by
      rw [beq_eq_false_iff_ne]; intro e; exact hne (UInt8.toNat_inj.1 (by show src[st.at_].toNat = 34; omega))
    obtain ⟨ch, hch⟩ : ∃ ch : Nat, ch = src[st.at_].toNat := ⟨_, rfl⟩
    rw [← hch] at cb d2
    rw [ha] at c0
    clear hno hbs hx hne hch ha
    go_enter Tryz.func29, Tryz.ntmps29
    go_wp2_with fail
    go_quiet (fail)
    go_wp2_with fail
    obtain ⟨W, hW⟩ : ∃ W, W = w.drewN nq := ⟨_, rfl⟩
    rw [← hW]
    have HBW := Lib.hid (show Below w.heap.size w W by rw [hW]; exact ⟨rfl, rfl, rfl, Nat.le_refl _, fun _ _ => rfl⟩)
    clear hW c0 c1 c2 cb d2 d0
    go_loopg [2] (n + 1) (fun g s2 wr => ∃ k : Nat, k ≤ n ∧ n - k < g ∧ s2 = .int .i64 k ∧ Hid (Below w.heap.size w wr ∧ K = goesUp st lex (n - k) k))
    case atStart => exact ⟨0, by omega, by omega, rfl, Lib.hid ⟨HBW.out, HK.out⟩⟩
    case round =>
      obtain ⟨k, hk, hg, rfl, hrel⟩ := hrel
      obtain ⟨hbw, hK⟩ := hrel.out
      have hRD := RD0.out.below hbw
      have HRD := Lib.hid hRD
      have HRDD := Lib.hid hRD.drew
      have HLT := Lib.hid hRD.lt
      have c0 := hRD.c0
      have c1 := hRD.c1
      have c2 := hRD.c2
      have HB2 := Lib.hid hbw
      have HK2 := Lib.hid hK
      have e1 : IntKind.i64.wrap ((st.at_ : Int) + (k : Int)) = (st.at_ : Int) + (k : Int) := IntWalk.i64_in _ ⟨by omega, by omega⟩
      by_cases hlk : st.at_ + k < st.to_
      · have hl : st.at_ < src.length := by omega
        obtain ⟨b, off, ha, hx, hbs⟩ := HSHOW.out (fun e => by rw [e] at hl; simp at hl)
        rw [HSV.out, ha] at c0
        have d1 : decide ((st.at_ : Int) + (k : Int) < (st.to_ : Int)) = true := by simp; omega
        have e2 : IntKind.i64.wrap ((st.at_ : Int) + (k : Int) + 1) = (st.at_ : Int) + (k : Int) + 1 := IntWalk.i64_in _ ⟨by omega, by omega⟩
        have hhead : lex.take (k + 1) = (src.drop st.at_).take (k + 1) := by rw [HLEX.out, List.take_take, Nat.min_eq_left (by omega)]
        have hlen1 : (lex.take (k + 1)).length = k + 1 := by rw [hhead]; simp; omega
        have hsl : ∀ V, (Instr.slice 34 (.slice (some ⟨b, off, none⟩) src.length cap) (some (.int .i64 (st.at_ : Int))) (some (.int .i64 ((st.at_ : Int) + (k : Int) + 1))) none).run Tryz.prog V = .ok (.slice (some ⟨b, off + st.at_, none⟩) (st.at_ + k + 1 - st.at_) (cap - st.at_)) V :=
          slice_run (j := st.at_ + k + 1) (by omega) (by omega) (by omega)
        have hcv0 : ∀ V, Below w.heap.size w V → (convert 34 9 (.slice (some ⟨b, off + st.at_, none⟩) (st.at_ + k + 1 - st.at_) (cap - st.at_))).run Tryz.prog V = .ok (str (lex.take (k + 1))) V := fun V hV => by
          have := run_convert_bytes_arg (P := Tryz.prog) V 34 5 Tryz.underlying34 Tryz.underlying5 b (off + st.at_) (st.at_ + k + 1 - st.at_) (cap - st.at_) (bn (lex.take (k + 1))) (by rw [bn_length, hlen1]; omega) (fun i hi => by
            have h1 := hbs (st.at_ + i) (by omega)
            have h2 := hV.block b (RD0.out.xlt b hx)
            rw [show off + st.at_ + i = off + (st.at_ + i) from by omega]
            have h3 : V.cell? ⟨b, off + (st.at_ + i), none⟩ = w.cell? ⟨b, off + (st.at_ + i), none⟩ := World.cell?_of_block (w := w) (w' := V) (a := ⟨b, off + (st.at_ + i), none⟩) h2
            rw [h3, h1]
            have e : (bn (lex.take (k + 1))).getD i 0 = (src[st.at_ + i].toNat : Int) := by
              rw [hhead]
              simp [bn, List.getD_eq_getElem?_getD, show i < k + 1 by omega, List.getElem?_eq_getElem (show st.at_ + i < src.length by omega)]
            rw [e]) 9 Tryz.underlying9
          rwa [strOfNums_bn] at this
        have hcv := hcv0 wr HB2.out
        have hcv1 := hcv0 wr.drew HB2.out.drew
        have HGO := Lib.hid (fun V (hV : RdOK X H V r sv src st) => goes_c (lex.take (k + 1)) (fun e => by rw [e] at hlen1; simp at hlen1) (by rw [hlen1]; omega) hV)
        obtain ⟨hd, hhd⟩ : ∃ hd, hd = lex.take (k + 1) := ⟨_, rfl⟩
        rw [← hhd] at HGO hcv hcv1
        have HHD := Lib.hid hhd
        have hn1 : n - k = (n - (k + 1)) + 1 := by omega
        rw [hn1] at HK2
        obtain ⟨q, hq⟩ : ∃ q, q = goes st hd := ⟨_, rfl⟩
        rw [← hq] at HGO
        have HQ := Lib.hid hq
        have i0 : (0 : Int) ≤ (st.at_ : Int) := Int.natCast_nonneg _
        clear hrel hbw hK hRD hbs hx hhead hlen1 hhd hn1 ha hq hcv0
        go_wp2_with fail
        go_still_tail 30, (by kernel_rfl)
        change wpList _ _ _ _ _ wr.drew
        obtain ⟨wd, hwd⟩ : ∃ wd, wd = wr.drew := ⟨_, rfl⟩
        rw [← hwd] at HRDD hcv1 ⊢
        have HBD := Lib.hid (show Below w.heap.size w wd by rw [hwd]; exact HB2.out.drew)
        clear hwd hcv hcv1 hsl c0 c1 c2
        go_wp2_with fail
        refine (HGO.out _ HRDD.out).mono ?_
        rintro e w5 ⟨rfl, hb5⟩
        have HB5 := Lib.hid (HBD.out.trans (hb5.mono HBD.out.size))
        have c1 := (RD0.out.below HB5.out).c1
        clear hb5
        cases q with
        | true =>
          have HK3 := Lib.hid (HK2.out.trans (goesUp_on (by rw [← HHD.out]; exact HQ.out.symm)))
          clear c1
          go_wp2_with fail
          go_roundg (n - (k + 1) + 1)
          case measure => omega
          case rel => exact ⟨k + 1, by omega, by omega, by go_num, Lib.hid ⟨HB5.out, HK3.out⟩⟩
        | false =>
          have HK3 := Lib.hid (HK2.out.trans (goesUp_off (by rw [← HHD.out]; exact HQ.out.symm)))
          go_wp2_with fail
          exact ⟨rfl, by rw [HTT.out, HK3.out]; rfl, ⟨HB5.out.os, HB5.out.tape, HB5.out.output, HB5.out.size, fun k hk => HB5.out.block k (RD0.out.xlt k hk)⟩⟩
      · have d1 : decide ((st.at_ : Int) + (k : Int) < (st.to_ : Int)) = false := by simp; omega
        obtain rfl : k = n := by omega
        obtain rfl : K = k := by rw [hK, Nat.sub_self]; rfl
        rw [HSV.out] at c0
        clear hrel hbw hK hRD
        go_wp2_with fail
        go_quiet (fail)
        go_wp2_with fail
        exact ⟨rfl, by rw [HTT.out]; rfl, ⟨HB2.out.os, HB2.out.tape, HB2.out.output, HB2.out.size, fun k hk => HB2.out.block k (RD0.out.xlt k hk)⟩⟩
  · have d0 : decide (st.at_ < st.to_) = false := by simpa using hlt
    clear hno
    go_enter Tryz.func29, Tryz.ntmps29
    go_wp2_with fail
    go_quiet (fail)
    go_wp2_with fail
    obtain ⟨W, hW⟩ : ∃ W, W = w.drewN nq := ⟨_, rfl⟩
    rw [← hW]
    have HBW := Lib.hid (show Below w.heap.size w W by rw [hW]; exact ⟨rfl, rfl, rfl, Nat.le_refl _, fun _ _ => rfl⟩)
    clear hW c0 c1 c2 d0
    go_loopg [2] (n + 1) (fun g s2 wr => ∃ k : Nat, k ≤ n ∧ n - k < g ∧ s2 = .int .i64 k ∧ Hid (Below w.heap.size w wr ∧ K = goesUp st lex (n - k) k))
    case atStart => exact ⟨0, by omega, by omega, rfl, Lib.hid ⟨HBW.out, HK.out⟩⟩
    case round =>
      obtain ⟨k, hk, hg, rfl, hrel⟩ := hrel
      obtain ⟨hbw, hK⟩ := hrel.out
      have hRD := RD0.out.below hbw
      have HRD := Lib.hid hRD
      have HRDD := Lib.hid hRD.drew
      have HLT := Lib.hid hRD.lt
      have c0 := hRD.c0
      have c1 := hRD.c1
      have c2 := hRD.c2
      have HB2 := Lib.hid hbw
      have HK2 := Lib.hid hK
      have e1 : IntKind.i64.wrap ((st.at_ : Int) + (k : Int)) = (st.at_ : Int) + (k : Int) := IntWalk.i64_in _ ⟨by omega, by omega⟩
      by_cases hlk : st.at_ + k < st.to_
      · exact absurd hlk (by omega)
      · have d1 : decide ((st.at_ : Int) + (k : Int) < (st.to_ : Int)) = false := by simp; omega
        obtain rfl : k = n := by omega
        obtain rfl : K = k := by rw [hK, Nat.sub_self]; rfl
        rw [HSV.out] at c0
        clear hrel hbw hK hRD
        go_wp2_with fail
        go_quiet (fail)
        go_wp2_with fail
        exact ⟨rfl, by rw [HTT.out]; rfl, ⟨HB2.out.os, HB2.out.tape, HB2.out.output, HB2.out.size, fun k hk => HB2.out.block k (RD0.out.xlt k hk)⟩⟩

theorem fail_c : FailC := fun X H r sv src st w h => by
  by_cases hq : st.at_ < st.to_ ∧ (src.drop st.at_).head? = some 34
  · have hl : st.at_ < src.length := Nat.lt_of_lt_of_le hq.1 h.tol
    have e : src[st.at_] = 34 := by have := hq.2; rw [drop_cons hl] at this; exact Option.some.inj this
    have := fail_text h hq.1 e
    unfold failAt
    rw [if_pos hq]
    exact this
  · have := fail_other h hq
    unfold failAt
    rw [if_neg hq]
    exact this
end
end Go.Proofs.YtkaeceedofmhbaaGreatDoor
namespace Go.Proofs.YtkaeceedofmhbaaGreatDoor
open Go.RowKit Bk

theorem wordCls_eq : ∀ c : UInt8, wordCls c = (decide (48 ≤ c.toNat) && decide (c.toNat ≤ 57) || decide (97 ≤ c.toNat) && decide (c.toNat ≤ 122) || decide (65 ≤ c.toNat) && decide (c.toNat ≤ 90) || decide (c.toNat = 95)) := by
  have key : ∀ n : Fin 256, wordCls (UInt8.ofNat n.val) = (decide (48 ≤ n.val) && decide (n.val ≤ 57) || decide (97 ≤ n.val) && decide (n.val ≤ 122) || decide (65 ≤ n.val) && decide (n.val ≤ 90) || decide (n.val = 95)) := by decide +kernel
  intro c
  have := key ⟨c.toNat, c.toNat_lt⟩
  simpa using this

set_option maxHeartbeats 1000000 in
theorem swordByte_c (c : UInt8) (w : World) :
    Calls Tryz.prog 73 #[.int .u8 (c.toNat : Int)] w fun e w' => e = .returned (.bool (wordCls c)) ∧ w = w' := by
  obtain ⟨T, hT⟩ : ∃ T, T = wordCls c := ⟨_, rfl⟩
  rw [← hT]
  have HT := Lib.hid (hT.trans (wordCls_eq c))
  obtain ⟨n, hn⟩ : ∃ n : Nat, n = c.toNat := ⟨_, rfl⟩
  rw [← hn] at HT ⊢
  clear hT hn
  go_enter Tryz.func73, Tryz.ntmps73
  go_wp2_with fail
  all_goals
    go_ret
    refine ⟨?_, rfl⟩
    rw [HT.out]
    refine congrArg Ending.returned (congrArg Value.bool (?_ : _ = _))
    rw [Bool.eq_iff_iff]
    simp only [Bool.or_eq_true, Bool.and_eq_true, decide_eq_true_eq, beq_iff_eq, true_iff]
    omega

section
variable {X : Nat → Prop} {H : Frozen} {r : Nat} {sv : Value} {src : Bytes} {st : St} {w w1 : World}

theorem srun_on {i : Nat} (h : i < src.length) (hc : wordCls src[i] = true) : run (src.drop i) = run (src.drop (i + 1)) + 1 := run_on h (by unfold wordCls at hc; simpa using hc)
theorem srun_off {i : Nat} (h : i < src.length) (hc : wordCls src[i] = false) : run (src.drop i) = 0 := run_stop h (by unfold wordCls at hc; simpa using hc)

theorem lexLen_word {p : Nat} (h : p < src.length) (hc : wordCls src[p] = true) : lexLen (src.drop p) = run (src.drop (p + 1)) + 1 := by
  rw [drop_cons h]
  show (if cls src[p] = 3 ∨ cls src[p] = 4 then _ else _) = _
  rw [if_pos (by unfold wordCls at hc; simpa using hc)]
theorem lexLen_text {p : Nat} (h : p < src.length) (hc : src[p] = 34) : lexLen (src.drop p) = Bk.quoted (src.drop (p + 1)) + 1 := by
  rw [drop_cons h, hc]; rfl
theorem lexLen_last {p : Nat} (h : p < src.length) (h1 : wordCls src[p] = false) (h2 : src[p] ≠ 34) (h3 : ¬ p + 1 < src.length) : lexLen (src.drop p) = 1 := by
  rw [drop_cons h, List.drop_eq_nil_of_le (by omega)]
  show (if cls src[p] = 3 ∨ cls src[p] = 4 then _ else if src[p] = 34 then _ else _) = _
  rw [if_neg (by unfold wordCls at h1; simpa using h1), if_neg h2]
theorem lexLen_sign {p : Nat} (h : p < src.length) (h1 : wordCls src[p] = false) (h2 : src[p] ≠ 34) (h3 : p + 1 < src.length) : lexLen (src.drop p) = if pair src[p] src[p + 1] then 2 else 1 := by
  rw [drop_cons h, drop_cons h3]
  show (if cls src[p] = 3 ∨ cls src[p] = 4 then _ else if src[p] = 34 then _ else _) = _
  rw [if_neg (by unfold wordCls at h1; simpa using h1), if_neg h2]

theorem quoted_end {i : Nat} (h : ¬ i < src.length) : Bk.quoted (src.drop i) = 0 := by rw [List.drop_eq_nil_of_le (by omega)]; rfl
theorem quoted_quote {i : Nat} (h : i < src.length) (hc : src[i] = 34) : Bk.quoted (src.drop i) = 1 := by rw [drop_cons h, hc]; rfl
theorem quoted_esc {i : Nat} (h : i < src.length) (hc : src[i] = 92) (h1 : i + 1 < src.length) : Bk.quoted (src.drop i) = Bk.quoted (src.drop (i + 2)) + 2 := by rw [drop_cons h, hc, drop_cons h1]; rfl
theorem quoted_esc_end {i : Nat} (h : i < src.length) (hc : src[i] = 92) (h1 : ¬ i + 1 < src.length) : Bk.quoted (src.drop i) = 1 := by rw [drop_cons h, hc, List.drop_eq_nil_of_le (by omega)]; rfl
theorem quoted_on {i : Nat} (h : i < src.length) (h1 : src[i] ≠ 34) (h2 : src[i] ≠ 92) : Bk.quoted (src.drop i) = Bk.quoted (src.drop (i + 1)) + 1 := by
  rw [drop_cons h]
  generalize src[i] = c at *
  generalize src.drop (i + 1) = l
  rw [Bk.quoted]
  · intro e; exact h1 e
  · intro e; exact absurd e h2
  · intro a b e; exact absurd e h2

set_option maxRecDepth 100000 in
set_option maxHeartbeats 1000000 in
theorem reach1_word (h : RdOK X H w r sv src st) (hl : st.at_ < src.length) (hc : wordCls src[st.at_] = true) :
    Calls Tryz.prog 45 #[.pointer (some ⟨r, 0, none⟩)] w fun e w' => e = .returned (.int .i64 ((st.at_ + lexLen (src.drop st.at_) : Nat) : Int)) ∧ Below w.heap.size w w' := by
  obtain ⟨a, cap, hsv, hc1, hc2, hshow⟩ := h.txt
  obtain ⟨b, off, rfl, hx, hbs⟩ := hshow (fun e => by rw [e] at hl; simp at hl)
  have c0 := h.c0
  have c1 := h.c1
  rw [hsv] at c0
  have cb := hbs st.at_ hl
  have hslen := h.slen
  have RD0 := Lib.hid h
  have HWB := Lib.hid (fun V => swordByte_c src[st.at_] V)
  obtain ⟨T, hT⟩ : ∃ T, T = st.at_ + lexLen (src.drop st.at_) := ⟨_, rfl⟩
  rw [← hT]
  rw [hc] at HWB
  have HT := Lib.hid (show T = st.at_ + 1 + run (src.drop (st.at_ + 1)) by rw [hT, lexLen_word hl hc]; omega)
  obtain ⟨ch, hch⟩ : ∃ ch : Nat, ch = src[st.at_].toNat := ⟨_, rfl⟩
  rw [← hch] at HWB cb
  obtain ⟨p, hp⟩ : ∃ p, p = st.at_ := ⟨_, rfl⟩
  rw [← hp] at c1 cb HT
  have HP := Lib.hid hp
  have hpl : p < src.length := by omega
  have i0 : (0 : Int) ≤ (p : Int) := Int.natCast_nonneg _
  have i1 : (p : Int) < (src.length : Int) := by omega
  have HX := Lib.hid hx
  have HBS := Lib.hid hbs
  clear h hx hshow hT hsv hbs hc hp hl hch
  go_enter Tryz.func45, Tryz.ntmps45
  go_wp2_with fail
  go_quiet (fail)
  go_wp2_with fail
  refine (HWB.out _).mono ?_
  rintro e w1 ⟨rfl, rfl⟩
  obtain ⟨W, hW⟩ : ∃ W, W = w.drewN nq := ⟨_, rfl⟩
  rw [← hW]
  have HBW := Lib.hid (show Below w.heap.size w W by rw [hW]; exact ⟨rfl, rfl, rfl, Nat.le_refl _, fun _ _ => rfl⟩)
  have d0 : W.cell? ⟨r, 0, none⟩ = some (.slice (some ⟨b, off, none⟩) src.length cap) := by rw [hW]; exact c0
  have HCE := Lib.hid (fun i (hi : i < src.length) => (show W.cell? ⟨b, off + i, none⟩ = some (.int .u8 (src[i].toNat : Int)) by rw [hW]; exact HBS.out i hi))
  clear hW c0 c1 cb
  go_wp2_with fail
  go_loop [3] (fun s3 => ∃ i : Nat, i ≤ src.length ∧ s3 = .int .i64 i ∧ T = i + run (src.drop i)) (fun s => src.length - (intOf s).toNat)
  case atStart => exact ⟨p + 1, by omega, by go_num, HT.out⟩
  case round =>
    obtain ⟨i, hi, rfl, hTi⟩ := hrel
    have HTI := Lib.hid hTi
    have b0 : (0 : Int) ≤ (i : Int) := Int.natCast_nonneg _
    clear hTi
    by_cases hli : i < src.length
    · have b1 : (i : Int) < (src.length : Int) := by omega
      have dl : decide (i < src.length) = true := by simpa using hli
      have ce := HCE.out i hli
      have HW := Lib.hid (swordByte_c src[i] W)
      obtain ⟨wb, hwb⟩ : ∃ wb, wb = wordCls src[i] := ⟨_, rfl⟩
      rw [← hwb] at HW
      have HWE := Lib.hid hwb
      obtain ⟨ch2, hch2⟩ : ∃ ch2 : Nat, ch2 = src[i].toNat := ⟨_, rfl⟩
      rw [← hch2] at HW ce
      clear hwb hch2
      cases wb with
      | true =>
        have HTN := Lib.hid (HTI.out.trans (by rw [srun_on hli HWE.out.symm]; omega : _ = (i + 1) + run (src.drop (i + 1))))
        go_wp2_with fail
        refine HW.out.mono ?_
        rintro e w1 ⟨rfl, rfl⟩
        go_wp2_with fail
        go_round
        case rel => exact ⟨i + 1, by omega, by go_num, HTN.out⟩
        case measure => simp [intOf]; omega
      | false =>
        have HTN := Lib.hid (show T = i by rw [HTI.out, srun_off hli HWE.out.symm]; rfl)
        go_wp2_with fail
        refine HW.out.mono ?_
        rintro e w1 ⟨rfl, rfl⟩
        go_wp2_with fail
        go_ret
        exact ⟨by rw [HTN.out]; rfl, HBW.out⟩
    · have dl : decide (i < src.length) = false := by simpa using hli
      have HTN := Lib.hid (show T = i by rw [HTI.out, run_end hli]; rfl)
      go_wp2_with fail
      go_ret
      exact ⟨by rw [HTN.out]; rfl, HBW.out⟩

set_option maxRecDepth 100000 in
set_option maxHeartbeats 1000000 in
theorem reach1_text (h : RdOK X H w r sv src st) (hl : st.at_ < src.length) (hc : wordCls src[st.at_] = false) (hq : src[st.at_] = 34) :
    Calls Tryz.prog 45 #[.pointer (some ⟨r, 0, none⟩)] w fun e w' => e = .returned (.int .i64 ((st.at_ + lexLen (src.drop st.at_) : Nat) : Int)) ∧ Below w.heap.size w w' := by
  obtain ⟨a, cap, hsv, hc1, hc2, hshow⟩ := h.txt
  obtain ⟨b, off, rfl, hx, hbs⟩ := hshow (fun e => by rw [e] at hl; simp at hl)
  have c0 := h.c0
  have c1 := h.c1
  rw [hsv] at c0
  have cb := hbs st.at_ hl
  have hslen := h.slen
  have RD0 := Lib.hid h
  have HWB := Lib.hid (fun V => swordByte_c src[st.at_] V)
  obtain ⟨T, hT⟩ : ∃ T, T = st.at_ + lexLen (src.drop st.at_) := ⟨_, rfl⟩
  rw [← hT]
  rw [hc] at HWB
  have HT := Lib.hid (show T = st.at_ + 1 + Bk.quoted (src.drop (st.at_ + 1)) by rw [hT, lexLen_text hl hq]; omega)
  rw [hq] at cb HWB
  obtain ⟨p, hp⟩ : ∃ p, p = st.at_ := ⟨_, rfl⟩
  rw [← hp] at c1 cb HT
  have HP := Lib.hid hp
  have hpl : p < src.length := by omega
  have i0 : (0 : Int) ≤ (p : Int) := Int.natCast_nonneg _
  have i1 : (p : Int) < (src.length : Int) := by omega
  have HX := Lib.hid hx
  have HBS := Lib.hid hbs
  clear h hx hshow hT hsv hbs hc hp hl hq
  have e34 : (((34 : UInt8)).toNat : Int) = 34 := rfl
  rw [e34] at cb HWB
  clear e34
  go_enter Tryz.func45, Tryz.ntmps45
  go_wp2_with fail
  go_quiet (fail)
  go_wp2_with fail
  refine (HWB.out _).mono ?_
  rintro e w1 ⟨rfl, rfl⟩
  obtain ⟨W, hW⟩ : ∃ W, W = w.drewN nq := ⟨_, rfl⟩
  rw [← hW]
  have HBW := Lib.hid (show Below w.heap.size w W by rw [hW]; exact ⟨rfl, rfl, rfl, Nat.le_refl _, fun _ _ => rfl⟩)
  have d0 : W.cell? ⟨r, 0, none⟩ = some (.slice (some ⟨b, off, none⟩) src.length cap) := by rw [hW]; exact c0
  have HCE := Lib.hid (fun i (hi : i < src.length) => (show W.cell? ⟨b, off + i, none⟩ = some (.int .u8 (src[i].toNat : Int)) by rw [hW]; exact HBS.out i hi))
  clear hW c0 c1 cb
  go_wp2_with fail
  go_loop [3] (fun s3 => ∃ i : Nat, i ≤ src.length + 1 ∧ s3 = .int .i64 i ∧ Hid (T = if i ≤ src.length then i + Bk.quoted (src.drop i) else src.length)) (fun s => src.length + 1 - (intOf s).toNat)
  case atStart => exact ⟨p + 1, by omega, by go_num, Lib.hid (by rw [if_pos (by omega)]; exact HT.out)⟩
  case round =>
    obtain ⟨i, hi, rfl, HTI⟩ := hrel
    have b0 : (0 : Int) ≤ (i : Int) := Int.natCast_nonneg _
    by_cases hli : i < src.length
    · have b1 : (i : Int) < (src.length : Int) := by omega
      have dl : decide (i < src.length) = true := by simpa using hli
      have ce := HCE.out i hli
      have HT2 := Lib.hid (HTI.out.trans (if_pos (Nat.le_of_lt hli)))
      by_cases hq : src[i] = 34
      · rw [hq] at ce
        have HTN := Lib.hid (HT2.out.trans (by rw [quoted_quote hli hq]))
        have e34 : (((34 : UInt8)).toNat : Int) = 34 := rfl
        rw [e34] at ce
        have dm : decide ((i : Int) + 1 ≤ (src.length : Int)) = true := by simp; omega
        have d34 : ((34 : Int) != 34) = false := rfl
        clear hq e34
        go_wp2_with fail
        go_ret
        exact ⟨by rw [HTN.out]; exact congrArg (fun t : Int => Ending.returned (.int .i64 t)) (by omega), HBW.out⟩
      · have HNQ := Lib.hid hq
        by_cases hb : src[i] = 92
        · rw [hb] at ce
          have e92 : (((92 : UInt8)).toNat : Int) = 92 := rfl
          rw [e92] at ce
          have HB92 := Lib.hid hb
          have HTN := Lib.hid (show T = if i + 2 ≤ src.length then i + 2 + Bk.quoted (src.drop (i + 2)) else src.length by
            by_cases h2 : i + 1 < src.length
            · rw [if_pos (by omega), HT2.out, quoted_esc hli hb h2]; omega
            · rw [if_neg (by omega), HT2.out, quoted_esc_end hli hb h2]; omega)
          clear hq hb e92
          go_wp2_with fail
          go_round
          case rel => exact ⟨i + 2, by omega, by go_num, HTN⟩
          case measure => simp [intOf]; omega
        · have HTN := Lib.hid (show T = if i + 1 ≤ src.length then i + 1 + Bk.quoted (src.drop (i + 1)) else src.length by
            rw [if_pos (by omega), HT2.out, quoted_on hli hq hb]; omega)
          obtain ⟨ch2, hch2⟩ : ∃ ch2 : Nat, ch2 = src[i].toNat := ⟨_, rfl⟩
          have d34 : ((ch2 : Int) != 34) = true := by
            rw [bne_iff_ne, hch2]; intro e; exact hq (UInt8.toNat_inj.1 (by show src[i].toNat = 34; omega))
          have d92 : ((ch2 : Int) == 92) = false := by
            rw [beq_eq_false_iff_ne, hch2]; intro e; exact hb (UInt8.toNat_inj.1 (by show src[i].toNat = 92; omega))
          rw [← hch2] at ce
          clear hq hb hch2
          go_wp2_with fail
          go_round
          case rel => exact ⟨i + 1, by omega, by go_num, HTN⟩
          case measure => simp [intOf]; omega
    · have dl : decide (i < src.length) = false := by simpa using hli
      have HTN := Lib.hid (show T = src.length by
        rw [HTI.out]
        by_cases h2 : i ≤ src.length
        · rw [if_pos h2, quoted_end hli]; omega
        · rw [if_neg h2])
      go_wp2_with fail
      go_ret
      exact ⟨by rw [HTN.out]; exact congrArg (fun t : Int => Ending.returned (.int .i64 t)) (by omega), HBW.out⟩
end
end Go.Proofs.YtkaeceedofmhbaaGreatDoor
