/-
  syntax: goes.
-/
import Derived.Test.YtkaeceedofmhbaaGreatDoorGSy6
import Derived.Deep.DeepCutAuto
import Derived.Deep.LoopGhost
namespace Go.Proofs.YtkaeceedofmhbaaGreatDoor
open Go.RowKit Bk

section
variable {X : Nat → Prop} {H : Frozen} {r : Nat} {sv : Value} {src : Bytes} {st : St} {w w1 : World}

theorem Glob.below (h : Glob w) (hl : low ≤ w.heap.size) (hb : Below w.heap.size w w1) : Glob w1 := h.keep fun k hk => hb.block k (by omega)
theorem RdOK.low (h : RdOK X H w r sv src st) : low ≤ w.heap.size := by
  have := h.xlt (Go.Proofs.YtkaeceedofmhbaaGreatDoor.low - 1) (h.gx _ (by decide))
  unfold Go.Proofs.YtkaeceedofmhbaaGreatDoor.low at this ⊢
  omega

theorem prefix_le (a b : Bytes) : Lib.hasPrefix b a = a.isPrefixOf b := by
  rw [Bool.eq_iff_iff, List.isPrefixOf_iff_prefix]
  unfold Lib.hasPrefix
  simp [List.prefix_iff_eq_take]
theorem RdOK.below (h : RdOK X H w r sv src st) (hb : Below w.heap.size w w1) : RdOK X H w1 r sv src st :=
  h.local h.txt h.gx (fun _ h => h) (fun k hk _ => hb.block k hk) (fun _ h => h) (fun _ h => .inl h) (fun k hk => Nat.lt_of_lt_of_le (h.xlt k hk) hb.size)

theorem want_len (h : RdOK X H w r sv src st) : st.want.length ≤ 9223372036854775807 := by
  obtain ⟨v, ic, nc, h⟩ := h
  rcases h.want.2 with ⟨_, h0⟩ | ⟨g, cap, cur, _, _, _, h1, h2, _⟩
  · omega
  · unfold maxLen at h2; omega

/-- What was asked for, as it lies in memory. -/
theorem want_shows (h : RdOK X H w r sv src st) : ∃ a cap g, w.cell? ⟨r, 9, none⟩ = some (.slice a st.want.length cap) ∧ ∀ i (hi : i < st.want.length), a = some ⟨g, 0, none⟩ ∧ g < w.heap.size ∧ w.cell? ⟨g, i, none⟩ = some (.int .i64 st.want[i]) := by
  obtain ⟨v, ic, nc, h⟩ := h
  have c9 : w.cell? ⟨r, 9, none⟩ = some v.wv := cell_of_blk h.blk 9
  rcases h.want.2 with ⟨e, h0⟩ | ⟨g, cap, cur, e, _, hg, _, _, _, hcur⟩
  · exact ⟨none, 0, 0, by rw [c9, e, h0], fun i hi => by omega⟩
  · refine ⟨some ⟨g, 0, none⟩, cap, g, by rw [c9, e], fun i hi => ⟨rfl, lt_of_block hg, ?_⟩⟩
    have e2 : (cur.toList.take (st.want.length * 1))[i]? = (ints st.want)[i]? := by rw [hcur]
    rw [List.getElem?_take_of_lt (by omega)] at e2
    have e3 : w.cell? ⟨g, i, none⟩ = cur.toList[i]? := by rw [World.cell?]; simp [hg]
    rw [e3, e2]
    simp [ints, hi]

/-- A string's bytes in a block of their own: they are a text, and so are the lexemes. -/
theorem tokens_string (s : Bytes) (hs : ByteArray) (hhs : hs = ⟨s.toArray⟩) (w : World) (hlen : s.length ≤ 1048576) (hg : Glob w) (hlow : low ≤ w.heap.size) :
    ∃ v W, (convert 9 34 (.string hs)).run Tryz.prog w = .ok v W ∧ Below w.heap.size w W ∧
      Calls Tryz.prog 15 #[v] W (fun e w' => Below W.heap.size W w' ∧ match tokens (s.length + 1) 0 s with
        | .ok _ => ∃ v, e = .returned (.tuple #[v, .int .i64 0, .int .i64 0])
        | .error b => e = .returned (.tuple #[.slice none 0 0, .int .i64 b, .int .i64 60])) := by
  have hsz : hs.size = s.length := by rw [hhs]; simp [ByteArray.size]
  refine ⟨_, _, Lib.run_convert_string_bytes (P := Tryz.prog) w 9 34 5 hs Tryz.underlying9 Tryz.underlying34 Tryz.underlying5, ?_, ?_⟩
  · exact ⟨rfl, rfl, rfl, by rw [Lib.bytesWorld_size]; omega, fun k hk => Lib.bytesWorld_at_old w _ hs k hk⟩
  · have hb : Below w.heap.size w (Lib.bytesWorld w 5 hs) := ⟨rfl, rfl, rfl, by rw [Lib.bytesWorld_size]; omega, fun k hk => Lib.bytesWorld_at_old w _ hs k hk⟩
    have ht : Txt (fun k => k < (Lib.bytesWorld w 5 hs).heap.size) (Lib.bytesWorld w 5 hs) (.slice (some ⟨w.heap.size, 0, none⟩) hs.size (grownCap w hs.size 0 5)) s := by
      refine ⟨_, _, by rw [hsz], by rw [← hsz]; exact grownCap_ge w hs.size 0 _, grownCap_le_maxLen w hs.size 0 _ (by rw [hsz]; unfold maxLen; omega), fun _ => ⟨w.heap.size, 0, rfl, by rw [Lib.bytesWorld_size]; omega, fun i hi => ?_⟩⟩
      have := Lib.bytesWorld_cell w 5 hs i (by rw [hsz]; exact hi)
      rw [Nat.zero_add, this, hhs]
      simp [List.getD_eq_getElem?_getD, hi]
    refine (tokens_c _ (s.length + 1) ht hlen (hg.below hlow hb) (fun _ h => h) (fun k hk => by rw [Lib.bytesWorld_size]; omega) (by omega)).mono ?_
    rintro e w' ⟨hf, hp⟩
    refine ⟨⟨hf.os, hf.tape, hf.output, hf.size, hf.block⟩, ?_⟩
    cases hR : tokens (s.length + 1) 0 s with
    | ok l => rw [hR] at hp; obtain ⟨v, h, _⟩ := hp; exact ⟨v, h⟩
    | error b => rw [hR] at hp; exact hp.1

set_option maxRecDepth 100000 in
set_option maxHeartbeats 1000000 in
theorem goes_c (head : Bytes) (hne : head ≠ []) (hlen : head.length ≤ 1048576) (h : RdOK X H w r sv src st) :
    Calls Tryz.prog 52 #[.pointer (some ⟨r, 0, none⟩), str head] w fun e w' => e = .returned (.bool (goes st head)) ∧ Below w.heap.size w w' := by
  have hw := want_len h
  have c10 := h.c10
  have RD0 := Lib.hid h
  have HG := Lib.hid h.glob
  have hlow := h.low
  have HLG := Lib.hid (legal_c head w h.glob hlow)
  have HRS := Lib.hid (fun w1 (h1 : Glob w1) => reserved_c head w1 h1)
  obtain ⟨hs, hhs⟩ : ∃ hs : ByteArray, hs = ⟨head.toArray⟩ := ⟨_, rfl⟩
  have estr : (str head : Value) = .string hs := by rw [hhs]
  rw [estr] at HLG HRS ⊢
  have HHS := Lib.hid hhs
  obtain ⟨T, hT⟩ : ∃ T, T = goes st head := ⟨_, rfl⟩
  rw [← hT]
  have HT := Lib.hid (show T = (st.name && (legal head || reserved head != 0) || st.num && isDigit head && goesNum head || st.want.any (fun k => head.isPrefixOf (spelled k))) from hT)
  obtain ⟨nm, hnm⟩ : ∃ nm, nm = st.name := ⟨_, rfl⟩
  obtain ⟨lg, hlg⟩ : ∃ lg, lg = legal head := ⟨_, rfl⟩
  obtain ⟨rs, hrs⟩ : ∃ rs, rs = reserved head := ⟨_, rfl⟩
  rw [← hnm] at c10 HT
  rw [← hlg] at HLG HT
  rw [← hrs] at HRS HT
  clear h hhs hT hnm hlg hrs estr
  go_enter Tryz.func52, Tryz.ntmps52
  go_upto_region 1 with (fail)
  go_cut [22] (fun s22 wx => Below w.heap.size w wx ∧ s22 = .bool (nm && (lg || rs != 0)))
  case first =>
    cases nm with
    | false =>
      go_wp2_with fail
      go_meet
      exact ⟨Below.refl _ _, rfl⟩
    | true =>
      cases lg with
      | true =>
        go_wp2_with fail
        refine HLG.out.mono ?_
        rintro e w1 ⟨rfl, hb⟩
        go_wp2_with fail
        go_meet
        exact ⟨hb, rfl⟩
      | false =>
        have HR2 := Lib.hid (show ((rs : Int) != 0) = (rs != 0) by rw [Bool.eq_iff_iff]; simp)
        go_wp2_with fail
        refine HLG.out.mono ?_
        rintro e w1 ⟨rfl, hb⟩
        have HB := Lib.hid hb
        have HG1 := Lib.hid (HG.out.below hlow hb)
        clear hb
        go_wp2_with fail
        refine (HRS.out _ HG1.out).mono ?_
        rintro e w2 ⟨rfl, rfl⟩
        go_wp2_with fail
        go_meet
        refine ⟨HB.out.trans ((Below.refl _ _).alloc HB.out.size wordsObj), ?_⟩
        rw [← HR2.out]; rfl
  case rest =>
    obtain ⟨hb, rfl⟩ := hcut
    have HB := Lib.hid hb
    obtain ⟨b1, hb1⟩ : ∃ b1, b1 = (nm && (lg || rs != 0)) := ⟨_, rfl⟩
    rw [← hb1] at HT ⊢
    clear hb hb1 c10
    cases b1 with
    | true =>
      go_wp2_with fail
      go_ret
      exact ⟨by rw [HT.out]; rfl, HB.out⟩
    | false =>
      have hRD := RD0.out.below HB.out
      have c11 := hRD.c11
      have HRD := Lib.hid hRD
      have HG1 := Lib.hid hRD.glob
      have hlow1 := hRD.low
      obtain ⟨c, r0, hcr⟩ : ∃ c r0, head = c :: r0 := by cases head with
        | nil => exact absurd rfl hne
        | cons c r0 => exact ⟨c, r0, rfl⟩
      have hs0 : 0 < hs.size := by rw [HHS.out, hcr]; show 0 < (c :: r0).toArray.size; simp
      have hb0 : hs[0] = c := by have := HHS.out; subst this; subst hcr; rfl
      have hdig : isDigit head = (decide (48 ≤ hs[0].toNat) && decide (hs[0].toNat ≤ 57)) := by rw [hcr, hb0]; rfl
      have HDG := Lib.hid hdig
      obtain ⟨nu, hnu⟩ : ∃ nu, nu = st.num := ⟨_, rfl⟩
      rw [← hnu] at c11 HT
      clear hRD hb0 hdig hnu hcr
      go_upto_region 3 with (fail)
      go_cut [36] (fun s36 wx => wx = wc ∧ s36 = .bool (nu && isDigit head))
      case first =>
        cases nu with
        | false =>
          go_wp2_with fail
          go_meet
          exact ⟨rfl, rfl⟩
        | true =>
          obtain ⟨b, hb⟩ : ∃ b, b = hs[0].toNat := ⟨_, rfl⟩
          rw [← hb] at HDG
          by_cases h1 : 48 ≤ b
          · by_cases h2 : b ≤ 57
            · have d1 : decide ((hs[0].toNat : Int) ≥ 48) = true := by rw [← hb]; simp; omega
              have d2 : decide ((hs[0].toNat : Int) ≤ 57) = true := by rw [← hb]; simp; omega
              have HE := Lib.hid (show isDigit head = true by rw [HDG.out, decide_eq_true h1, decide_eq_true h2]; rfl)
              clear hb h1 h2
              go_wp2_with fail
              go_meet
              exact ⟨rfl, by rw [HE.out]; rfl⟩
            · have d1 : decide ((hs[0].toNat : Int) ≥ 48) = true := by rw [← hb]; simp; omega
              have d2 : decide ((hs[0].toNat : Int) ≤ 57) = false := by rw [← hb]; simp; omega
              have HE := Lib.hid (show isDigit head = false by rw [HDG.out, decide_eq_true h1, decide_eq_false h2]; rfl)
              clear hb h1 h2
              go_wp2_with fail
              go_meet
              exact ⟨rfl, by rw [HE.out]; rfl⟩
          · have d1 : decide ((hs[0].toNat : Int) ≥ 48) = false := by rw [← hb]; simp; omega
            have HE := Lib.hid (show isDigit head = false by rw [HDG.out, decide_eq_false h1]; rfl)
            clear hb h1
            go_wp2_with fail
            go_meet
            exact ⟨rfl, by rw [HE.out]; rfl⟩
      case rest =>
        obtain ⟨rfl, rfl⟩ := hcut
        obtain ⟨b2, hb2⟩ : ∃ b2, b2 = (nu && isDigit head) := ⟨_, rfl⟩
        rw [← hb2] at HT ⊢
        clear hb2 c11
        cases b2 with
        | true =>
          obtain ⟨v, W, hcv, hbW, hcall⟩ := tokens_string head hs HHS.out wc hlen HG1.out hlow1
          have HCALL := Lib.hid hcall
          have HBW := Lib.hid hbW
          have HT2 := Lib.hid (show T = (goesNum head || st.want.any fun k => List.isPrefixOf head (spelled k)) from HT.out)
          have hgn : goesNum head = match tokens (head.length + 1) 0 head with | .ok _ => true | .error b => b == head.length := rfl
          have hsz : hs.size = head.length := by rw [HHS.out]; simp [ByteArray.size]
          have HSZ := Lib.hid hsz
          have HGN := Lib.hid hgn
          clear hcall hbW hgn hsz
          go_upto_region 4 with (fail)
          go_wp2_with fail
          refine HCALL.out.mono ?_
          rintro e w3 ⟨hb3, hres⟩
          have HB3 := Lib.hid (HB.out.trans ((HBW.out.trans (hb3.mono HBW.out.size)).mono HB.out.size))
          have HBC := Lib.hid (HBW.out.trans (hb3.mono HBW.out.size))
          have hgn := HGN.out
          cases hR : tokens (head.length + 1) 0 head with
          | ok l =>
            rw [hR] at hres hgn
            obtain ⟨v3, rfl⟩ := hres
            have HGT := Lib.hid hgn
            clear hR hb3 hgn
            go_wp2_with fail
            go_ret
            exact ⟨by rw [HT2.out, HGT.out]; rfl, HB3.out⟩
          | error b =>
            rw [hR] at hres hgn
            subst hres
            by_cases hbl : b = hs.size
            · have d1 : ((b : Int) == (hs.size : Int)) = true := by rw [beq_iff_eq]; omega
              have HGT := Lib.hid (show goesNum head = true by rw [hgn, hbl, HSZ.out]; simp)
              clear hR hb3 hgn hbl
              go_wp2_with fail
              go_ret
              exact ⟨by rw [HT2.out, HGT.out]; rfl, HB3.out⟩
            · have d1 : ((b : Int) == (hs.size : Int)) = false := by rw [beq_eq_false_iff_ne]; omega
              have HGT := Lib.hid (show goesNum head = false by rw [hgn, beq_eq_false_iff_ne, ← HSZ.out]; exact hbl)
              have HT3 := Lib.hid (show T = st.want.any (fun k => List.isPrefixOf head (spelled k)) by rw [HT2.out, HGT.out]; rfl)
              obtain ⟨a, cap, g, hwv, hcells⟩ := want_shows HRD.out
              have HCE := Lib.hid hcells
              have c9 := (World.cell?_of_block (a := ⟨r, 9, none⟩) (HBC.out.block r HRD.out.lt)).trans hwv
              clear hR hb3 hgn hbl hwv hcells hcv
              go_wp2_with fail
              go_loopg [57] (st.want.length + 1) (fun g s57 wr => ∃ i : Nat, i ≤ st.want.length ∧ st.want.length - i < g ∧ s57 = .int .i64 i ∧ Hid (Below wc.heap.size wc wr ∧ (st.want.take i).any (fun k => List.isPrefixOf head (spelled k)) = false))
              case atStart => exact ⟨0, by omega, by omega, rfl, Lib.hid ⟨HBC.out, by simp⟩⟩
              case round =>
                obtain ⟨i, hi, hg, rfl, hrel⟩ := hrel
                obtain ⟨hbw, hany⟩ := hrel.out
                have HBW2 := Lib.hid hbw
                have HANY := Lib.hid hany
                have HBL := Lib.hid (HB.out.trans (hbw.mono HB.out.size))
                by_cases hlt : i < st.want.length
                · obtain ⟨ha, hgl, hce⟩ := HCE.out i hlt
                  subst ha
                  have ce := (World.cell?_of_block (a := ⟨g, i, none⟩) (hbw.block g hgl)).trans hce
                  obtain ⟨k, hk⟩ : ∃ k, k = st.want[i] := ⟨_, rfl⟩
                  rw [← hk] at ce
                  have HTK := Lib.hid (show st.want.take (i + 1) = st.want.take i ++ [k] by rw [List.take_succ_eq_append_getElem hlt, hk])
                  have HSP := Lib.hid (spelled_c k wr (HG1.out.below hlow1 hbw))
                  have HAN2 := Lib.hid (fun h : List.isPrefixOf head (spelled k) = true => (show (st.want.any fun k => List.isPrefixOf head (spelled k)) = true from List.any_eq_true.2 ⟨k, by rw [hk]; exact List.getElem_mem _, h⟩))
                  have b0 : (0 : Int) ≤ (i : Int) := Int.natCast_nonneg _
                  have b1 : (i : Int) < (st.want.length : Int) := by omega
                  have hi63 : i < 9223372036854775807 := Nat.lt_of_lt_of_le hlt hw
                  have dl : decide (i < st.want.length) = true := by simpa using hlt
                  clear hrel hbw hany hce hk hgl
                  go_wp2_with fail
                  refine HSP.out.mono ?_
                  rintro e w5 ⟨rfl, hb5⟩
                  have HB5 := Lib.hid (HBW2.out.trans (hb5.mono HBW2.out.size))
                  clear hb5
                  go_wp2_with fail
                  refine (Tryz.strings_HasPrefix _ _ _).mono ?_
                  rintro e w6 ⟨rfl, h6⟩
                  subst h6
                  obtain ⟨pb, hpb⟩ : ∃ pb, pb = Lib.hasPrefix (⟨(spelled k).toArray⟩ : ByteArray).data.toList hs.data.toList := ⟨_, rfl⟩
                  rw [← hpb]
                  have HPB := Lib.hid (show pb = List.isPrefixOf head (spelled k) by rw [hpb, HHS.out]; exact prefix_le _ _)
                  clear hpb
                  cases pb with
                  | true =>
                    go_wp2_with fail
                    go_ret
                    exact ⟨by rw [HT3.out, HAN2.out HPB.out.symm]; rfl, HB.out.trans (HB5.out.mono HB.out.size)⟩
                  | false =>
                    go_wp2_with fail
                    go_roundg (st.want.length - (i + 1) + 1)
                    case measure => omega
                    case rel => exact ⟨i + 1, by omega, by omega, by go_num, Lib.hid ⟨HB5.out, by rw [HTK.out, List.any_append, HANY.out]; simp [← HPB.out]⟩⟩
                · have dl : decide (i < st.want.length) = false := by simpa using hlt
                  have HAN2 := Lib.hid (show st.want.take i = st.want from List.take_of_length_le (by omega))
                  clear hrel hbw hany
                  go_wp2_with fail
                  go_ret
                  exact ⟨by rw [HT3.out, ← HANY.out, HAN2.out]; rfl, HBL.out⟩
        | false =>
          have HT3 := Lib.hid (show T = st.want.any (fun k => List.isPrefixOf head (spelled k)) from HT.out)
          obtain ⟨a, cap, g, hwv, hcells⟩ := want_shows HRD.out
          have HCE := Lib.hid hcells
          clear hcells
          go_wp2_with fail
          go_loopg [57] (st.want.length + 1) (fun g s57 wr => ∃ i : Nat, i ≤ st.want.length ∧ st.want.length - i < g ∧ s57 = .int .i64 i ∧ Hid (Below wc.heap.size wc wr ∧ (st.want.take i).any (fun k => List.isPrefixOf head (spelled k)) = false))
          case atStart => exact ⟨0, by omega, by omega, rfl, Lib.hid ⟨Below.refl _ _, by simp⟩⟩
          case round =>
            obtain ⟨i, hi, hg, rfl, hrel⟩ := hrel
            obtain ⟨hbw, hany⟩ := hrel.out
            have HBW2 := Lib.hid hbw
            have HANY := Lib.hid hany
            have HBL := Lib.hid (HB.out.trans (hbw.mono HB.out.size))
            by_cases hlt : i < st.want.length
            · obtain ⟨ha, hgl, hce⟩ := HCE.out i hlt
              subst ha
              have ce := (World.cell?_of_block (a := ⟨g, i, none⟩) (hbw.block g hgl)).trans hce
              obtain ⟨k, hk⟩ : ∃ k, k = st.want[i] := ⟨_, rfl⟩
              rw [← hk] at ce
              have HTK := Lib.hid (show st.want.take (i + 1) = st.want.take i ++ [k] by rw [List.take_succ_eq_append_getElem hlt, hk])
              have HSP := Lib.hid (spelled_c k wr (HG1.out.below hlow1 hbw))
              have HAN2 := Lib.hid (fun h : List.isPrefixOf head (spelled k) = true => (show (st.want.any fun k => List.isPrefixOf head (spelled k)) = true from List.any_eq_true.2 ⟨k, by rw [hk]; exact List.getElem_mem _, h⟩))
              have b0 : (0 : Int) ≤ (i : Int) := Int.natCast_nonneg _
              have b1 : (i : Int) < (st.want.length : Int) := by omega
              have hi63 : i < 9223372036854775807 := Nat.lt_of_lt_of_le hlt hw
              have dl : decide (i < st.want.length) = true := by simpa using hlt
              clear hrel hbw hany hce hk hgl
              go_wp2_with fail
              refine HSP.out.mono ?_
              rintro e w5 ⟨rfl, hb5⟩
              have HB5 := Lib.hid (HBW2.out.trans (hb5.mono HBW2.out.size))
              clear hb5
              go_wp2_with fail
              refine (Tryz.strings_HasPrefix _ _ _).mono ?_
              rintro e w6 ⟨rfl, h6⟩
              subst h6
              obtain ⟨pb, hpb⟩ : ∃ pb, pb = Lib.hasPrefix (⟨(spelled k).toArray⟩ : ByteArray).data.toList hs.data.toList := ⟨_, rfl⟩
              rw [← hpb]
              have HPB := Lib.hid (show pb = List.isPrefixOf head (spelled k) by rw [hpb, HHS.out]; exact prefix_le _ _)
              clear hpb
              cases pb with
              | true =>
                go_wp2_with fail
                go_ret
                exact ⟨by rw [HT3.out, HAN2.out HPB.out.symm]; rfl, HB.out.trans (HB5.out.mono HB.out.size)⟩
              | false =>
                go_wp2_with fail
                go_roundg (st.want.length - (i + 1) + 1)
                case measure => omega
                case rel => exact ⟨i + 1, by omega, by omega, by go_num, Lib.hid ⟨HB5.out, by rw [HTK.out, List.any_append, HANY.out]; simp [← HPB.out]⟩⟩
            · have dl : decide (i < st.want.length) = false := by simpa using hlt
              have HAN2 := Lib.hid (show st.want.take i = st.want from List.take_of_length_le (by omega))
              clear hrel hbw hany
              go_wp2_with fail
              go_ret
              exact ⟨by rw [HT3.out, ← HANY.out, HAN2.out]; rfl, HBL.out⟩
end
end Go.Proofs.YtkaeceedofmhbaaGreatDoor
