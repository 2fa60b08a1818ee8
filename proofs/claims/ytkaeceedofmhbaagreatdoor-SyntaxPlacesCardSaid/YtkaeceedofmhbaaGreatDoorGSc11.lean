/-
  scan: text. Made by gen_text.py (the frame at the two labels is written out).
-/
import Derived.Test.YtkaeceedofmhbaaGreatDoorGSc9
import Derived.Test.YtkaeceedofmhbaaGreatDoorGGrow
import Derived.StillTailTactics
import Derived.Deep.DeepMust
namespace Go.Proofs.YtkaeceedofmhbaaGreatDoor
open Go.RowKit Bk

def bn (s : Bytes) : List Int := s.map fun c => (c.toNat : Int)
theorem bn_length (s : Bytes) : (bn s).length = s.length := by simp [bn]
theorem strOfNums_bn (s : Bytes) : (.string (strOfNums (bn s)) : Value) = str s := by
  unfold strOfNums bn str
  have e : ((fun n : Int => UInt8.ofNat n.toNat) ∘ fun c : UInt8 => (c.toNat : Int)) = id := by funext c; simp
  simp [e]

/-- A row of bytes of the call's own. -/
def OwnB (w0 w : World) (ov : Value) (ob : Bytes) : Prop := w.ownsRow w0.heap.size 5 1 ov (bn ob).length (nums .u8 (bn ob))

section
variable {X : Nat → Prop} {c : Nat} {sv : Value} {s : Bytes} {p q b : Nat} {t t0 : Tok} {w0 w w1 : World} {ov v1 : Value} {ob : Bytes}
theorem OwnB.drewN (h : OwnB w0 w ov ob) (n : Nat) : OwnB w0 (w.drewN n) ov ob := ownsRow_block h fun _ _ => rfl
theorem OwnB.put (h : OwnB w0 w ov ob) {k i : Nat} (hk : k < w0.heap.size) (u : Value) : OwnB w0 (w.setCell ⟨k, i, none⟩ u) ov ob :=
  ownsRow_block h fun j hj => Below.heap_setCell _ _ _ _ (fun e => by have := own_base h j hj; simp at e; omega)
theorem OwnB.below (h : OwnB w0 w ov ob) (hb : Below w.heap.size w w1) : OwnB w0 w1 ov ob := ownsRow_block h fun j hj => hb.block j (own_lt h j hj)
theorem CT.grown (h : CT X w c sv s q b t) {row : Option Nat} (hg : w.grownBy w1 row) (hx : ∀ k, row = some k → ¬ X k ∧ k ≠ c ∧ k ≠ b) : CT X w1 c sv s q b t := by
  have hX : ∀ k, X k → w1.heap[k]? = w.heap[k]? := fun k hk => hg.block k (h.cur.xlt k hk) (fun e => (hx k e.symm).1 hk)
  refine ⟨h.cur.world hg.size (hg.block c (lt_of_block h.cur.blk) (fun e => (hx c e.symm).2.1 rfl)) hX, ?_, h.xb⟩
  rw [hg.block b (lt_of_block h.tok) (fun e => (hx b e.symm).2.2 rfl)]
  exact h.tok

theorem OwnB.snoc {ch : UInt8} (h : w1.ownsRow w0.heap.size 5 1 ov ((bn ob).length + 1) (nums .u8 (bn ob ++ [(ch.toNat : Int)]))) : OwnB w0 w1 ov (ob ++ [ch]) := by
  unfold OwnB
  have e : bn (ob ++ [ch]) = bn ob ++ [(ch.toNat : Int)] := by simp [bn]
  rw [e, List.length_append]; exact h

/-- What stands when a byte has been added. -/
theorem text_added (hc : CT X w c sv s q b t) (hf : Fr X w0 w) (ho : OwnB w0 w ov ob) (h0 : CT X w0 c sv s p b t0) (hg : w.grownBy w1 ov.ownBlock) : CT X w1 c sv s q b t ∧ Fr X w0 w1 := by
  have hx : ∀ k, ov.ownBlock = some k → ¬ X k ∧ k ≠ c ∧ k ≠ b := fun k hk => by
    have hb := own_base ho k hk
    have h1 := lt_of_block h0.cur.blk
    have h2 := lt_of_block h0.tok
    exact ⟨fun hX => by have := h0.cur.xlt k hX; omega, by omega, by omega⟩
  exact ⟨hc.grown hg hx, hf.grown hg hc.cur.xlt fun k hk => (hx k hk).1⟩
end

set_option maxRecDepth 100000 in
def textF (c b : Nat) (ov : Value) (g : Nat → Value) : Act := { tmps := #[.pointer (some ⟨c, 0, none⟩), .pointer (some ⟨b, 0, none⟩), undef, undef, .bool false, ov, g 6, g 7, g 8, g 9, g 10, g 11, g 12, g 13, g 14, g 15, g 16, g 17, g 18, g 19, g 20, g 21, g 22, g 23, g 24, g 25, g 26, g 27, g 28, g 29, g 30, g 31, g 32, g 33, g 34, g 35, g 36, g 37, g 38, g 39, g 40, g 41, g 42, g 43, g 44, g 45, g 46, g 47, g 48, g 49, g 50, g 51, g 52, g 53, g 54, g 55, g 56, g 57, g 58, g 59, g 60, g 61, g 62, g 63, g 64, g 65, g 66, g 67, g 68, g 69, g 70, g 71, g 72, g 73, g 74, g 75, g 76, g 77, g 78, g 79, g 80, g 81, g 82, g 83, g 84, g 85, g 86, g 87, g 88, g 89, g 90, g 91, g 92, g 93, g 94, g 95, g 96, g 97, g 98, g 99, g 100, g 101, g 102, g 103, g 104, g 105, g 106, g 107, g 108, g 109, g 110, g 111, g 112, g 113, g 114, g 115, g 116, g 117, g 118, g 119, g 120, g 121, g 122, g 123, g 124, g 125, g 126, g 127, g 128, g 129, g 130, g 131, g 132, g 133, g 134, g 135, g 136, g 137, g 138, g 139, g 140, g 141, g 142, g 143, g 144, g 145, g 146, g 147, g 148, g 149, g 150, g 151, g 152, g 153, g 154], defers := [] }
theorem textF_mk (a : Act) {c b : Nat} {ov : Value} (h : a = textF c b ov (fun i => a.tmps.getD i undef)) : ∃ g, a = textF c b ov g := ⟨_, h⟩

/-- At both labels: what has been read, and what is left to do. -/
def textJ (X : Nat → Prop) (c : Nat) (sv : Value) (s : Bytes) (p b : Nat) (t : Tok) (w0 : World) (T : Bool × Bytes × Nat) (l n : Nat) (a : Act) (w : World) : Prop :=
  ∃ (q : Nat) (ov : Value) (ob : Bytes), (∃ g, a = textF c b ov g) ∧ p ≤ q ∧ q < s.length ∧ CT X w c sv s q b t ∧ Fr X w0 w ∧ OwnB w0 w ov ob ∧ ob.length ≤ q ∧ s.length - q + 1 ≤ n ∧
    ((l = 0 ∧ T = text ob (q + 1 - p) (s.drop (q + 1))) ∨ (l = 1 ∧ s.drop q = 92 :: s.drop (q + 1) ∧ T = text ob (q - p) (s.drop q)))

def TextPost (X : Nat → Prop) (c : Nat) (sv : Value) (s : Bytes) (p b : Nat) (t : Tok) (w0 : World) (T : Bool × Bytes × Nat) (e : Ending) (w : World) : Prop :=
  e = .returned (.bool T.1) ∧ Fr X w0 w ∧ ∃ v : Bytes, CT X w c sv s (p + T.2.2) b { t with s := v } ∧ (T.1 = true → v = T.2.1)

theorem text_end {ob : Bytes} {k i : Nat} {s : Bytes} (h : ¬ i < s.length) : text ob k (s.drop i) = (false, [], k) := by
  rw [List.drop_eq_nil_of_le (by omega)]; unfold text; rfl
theorem text_quote {ob : Bytes} {k i : Nat} {s : Bytes} (h : i < s.length) (hc : s[i] = 34) : text ob k (s.drop i) = (true, ob, k + 1) := by
  rw [drop_cons h, hc]; unfold text; rfl
theorem text_bad {ob : Bytes} {k i : Nat} {s : Bytes} (h : i < s.length) (h1 : s[i] ≠ 34) (h2 : s[i] ≠ 92) (hc : s[i].toNat < 32 ∨ 126 < s[i].toNat) : text ob k (s.drop i) = (false, [], k) := by
  rw [drop_cons h]; unfold text; simp only [if_neg h1, if_neg h2, if_pos hc]
theorem text_on {ob : Bytes} {k i : Nat} {s : Bytes} (h : i < s.length) (h1 : s[i] ≠ 34) (h2 : s[i] ≠ 92) (hc : ¬ (s[i].toNat < 32 ∨ 126 < s[i].toNat)) : text ob k (s.drop i) = text (ob ++ [s[i]]) (k + 1) (s.drop (i + 1)) := by
  rw [drop_cons h]; conv => lhs; unfold text
  simp only [if_neg h1, if_neg h2, if_neg hc]

theorem info5 : (Tryz.prog.info? 5).map (fun i => (i.zero, i.size, i.bytes)) = some (some (.int .u8 0), 1, 1) := by kernel_rfl
theorem byte_beq_ne {x y : UInt8} (h : x ≠ y) : ((x.toNat : Int) == (y.toNat : Int)) = false := by
  rw [beq_eq_false_iff_ne]; intro e; exact h (UInt8.toNat_inj.1 (by omega))

/-- What is held while a hex digit of a text is reckoned. -/
def HeldO (X : Nat → Prop) (c : Nat) (s : Bytes) (q b : Nat) (t : Tok) (w0 : World) (bb off cap : Nat) (ov : Value) (ob : Bytes) (w : World) : Prop :=
  Held X c s q b t w0 bb off cap w ∧ OwnB w0 w ov ob
section
variable {X : Nat → Prop} {c : Nat} {s : Bytes} {q b : Nat} {t : Tok} {w0 w : World} {bb off cap : Nat} {ov : Value} {ob : Bytes}
theorem HeldO.drew (h : HeldO X c s q b t w0 bb off cap ov ob w) : HeldO X c s q b t w0 bb off cap ov ob w.drew := ⟨h.1.drew, h.2.drewN 1⟩
theorem hexo_held (ch : UInt8) (hv : Int) (hhv : hv = (hexv ch : Int)) (hl : q < s.length) (hch : s[q] = ch) (w : World) (h : HeldO X c s q b t w0 bb off cap ov ob w) :
    Calls Tryz.prog 89 #[.int .u8 (ch.toNat : Int)] w fun e w' => e = .returned (.int .u64 hv) ∧ w'.cell? ⟨c, 0, none⟩ = some (.slice (some ⟨bb, off, none⟩) s.length cap) ∧ w'.cell? ⟨c, 1, none⟩ = some (.int .i64 q) ∧
      w'.cell? ⟨bb, off + q, none⟩ = some (.int .u8 (ch.toNat : Int)) ∧ HeldO X c s q b t w0 bb off cap ov ob w' :=
  (hex_ct ch h.1.1).mono fun _ _ ⟨he, hb⟩ => ⟨by rw [he, hhv], (h.1.below hb).c0, (h.1.below hb).c1, by rw [(h.1.below hb).cb hl, hch], h.1.below hb, h.2.below hb⟩
end

noncomputable def textBody : Code := match Tryz.f61.body with | some (.seq _ (.scope c)) => c | _ => .skip
section
variable {X : Nat → Prop} {c : Nat} {sv : Value} {s : Bytes} {p b : Nat} {t : Tok} {w0 : World} {T : Bool × Bytes × Nat}

set_option maxRecDepth 100000 in
set_option maxHeartbeats 4000000 in
theorem text_plain (n : Nat) (a : Act) (w : World) (h0 : CT X w0 c sv s p b t) (hJ : textJ X c sv s p b t w0 T 0 n a w) :
    Goes Tryz.prog textBody (textJ X c sv s p b t w0 T) (bodyPost Tryz.prog Tryz.f61 (TextPost X c sv s p b t w0 T)) n 0 a w := by
  refine ⟨_, rfl, ?_⟩
  obtain ⟨q, ov, ob, ⟨g, rfl⟩, hpq, hqs, hct, hfr, hown, hobl, hn, hT⟩ := hJ
  have hT : T = text ob (q + 1 - p) (s.drop (q + 1)) := by
    rcases hT with ⟨_, h⟩ | ⟨h, _⟩
    · exact h
    · cases h
  unfold textF
  have H0 := Lib.hid h0
  have HT := Lib.hid hT
  have hlen := hct.cur.slen
  have hne : ¬ c = b := hct.ne
  have hne' : ¬ b = c := fun e => hct.ne e.symm
  have c1 := hct.cur.c1
  have f1 := hct.cur.free 1
  have cw : IntKind.i64.wrap ((q : Int) + 1) = (q : Int) + 1 := IntWalk.i64_in _ ⟨by omega, by omega⟩
  have tf : w.frozen? ⟨b, 2, none⟩ = false := hct.tfree 2
  have t2 : w.cell? ⟨b, 2, none⟩ = some (str t.s) := hct.cell 2
  have hct1 := hct.step (by omega)
  have HC := Lib.hid hct1
  have HF := Lib.hid (hfr.setCell (p := ⟨c, 1, none⟩) hct.cur.xc (.int .i64 ((q : Int) + 1)))
  have HO := Lib.hid (hown.put (i := 1) (lt_of_block h0.cur.blk) (.int .i64 ((q : Int) + 1)))
  by_cases hl : q + 1 < s.length
  · obtain ⟨bb, off, cap, hsv, hx, hc1, hc2, hbs⟩ := hct.cur.shows (show q < s.length by omega)
    obtain ⟨ch, hch⟩ : ∃ ch : UInt8, s[q + 1] = ch := ⟨_, rfl⟩
    have c0 := hct.cur.c0
    have cb := hbs (q + 1) hl
    have hcbb : ¬ bb = c := fun e => hct.cur.xc (e ▸ hx)
    have hcbb' : ¬ c = bb := fun e => hcbb e.symm
    have hq2 : ((q : Int) + 1 == (s.length : Int)) = false := by rw [beq_eq_false_iff_ne]; omega
    have hq3 : (0 : Int) ≤ (q : Int) + 1 := by omega
    have hq4 : (q : Int) + 1 < (s.length : Int) := by omega
    have hq5 : ((q : Int) + 1).toNat = q + 1 := by omega
    rw [hsv] at c0
    rw [hch] at cb
    have HH := Lib.hid hch
    have HSV := Lib.hid hsv
    clear hbs hx hc1 hc2 hsv hct hct1 hfr hown hch h0 hT
    by_cases hq : ch = 34
    · subst hq
      have hT : T = (true, ob, q + 1 - p + 1) := by rw [HT.out, text_quote hl HH.out]
      subst hT
      have cw2 : IntKind.i64.wrap ((q : Int) + 1 + 1) = (q : Int) + 1 + 1 := IntWalk.i64_in _ ⟨by omega, by omega⟩
      have hcv : ∀ m, (convert 34 9 ov).run Tryz.prog (((w.setCell ⟨c, 1, none⟩ (.int .i64 ((q : Int) + 1))).drewN m).setCell ⟨c, 1, none⟩ (.int .i64 ((q : Int) + 1 + 1))) = .ok (str ob) (((w.setCell ⟨c, 1, none⟩ (.int .i64 ((q : Int) + 1))).drewN m).setCell ⟨c, 1, none⟩ (.int .i64 ((q : Int) + 1 + 1))) := fun m => by
        have := own_string Tryz.underlying34 Tryz.underlying5 Tryz.underlying9 (((HO.out.drewN m).put (i := 1) (lt_of_block H0.out.cur.blk) (.int .i64 ((q : Int) + 1 + 1))))
        rwa [strOfNums_bn] at this
      go_wp2_with fail
      go_quiet (fail)
      go_wp2_with fail
      go_quiet (fail)
      go_wp2_with fail
      go_ret
      refine ⟨rfl, ((HF.out.drewN _).setCell HC.out.cur.xc _).setCell HC.out.xb _, ob, ?_, fun _ => rfl⟩
      rw [show p + (q + 1 - p + 1) = q + 1 + 1 from by omega]
      exact ((HC.out.drewN _).step (by omega)).put 2 _ rfl
    · have e34 : ((ch.toNat : Int) == 34) = false := byte_beq_ne (y := 34) hq
      by_cases hb : ch = 92
      · subst hb
        have HT2 := Lib.hid (show s.drop (q + 1) = 92 :: s.drop (q + 1 + 1) by rw [drop_cons hl, HH.out])
        clear hq e34
        go_wp2_with fail
        go_quiet (fail)
        go_wp2_with fail
        go_quiet (fail)
        go_wp2_with fail
        go_step3
        exact ⟨n - 1, by omega, q + 1, ov, ob, textF_mk _ rfl, by omega, hl, HC.out.drewN _, HF.out.drewN _, HO.out.drewN _, by omega, by omega, .inr ⟨rfl, HT2.out, HT.out⟩⟩
      · have e92 : ((ch.toNat : Int) == 92) = false := byte_beq_ne (y := 92) hb
        have HQ := Lib.hid hq
        have HB := Lib.hid hb
        clear hq hb
        by_cases hlo : (ch.toNat : Int) < 32
        · have hT : T = (false, [], q + 1 - p) := by
            rw [HT.out, text_bad hl (by rw [HH.out]; exact HQ.out) (by rw [HH.out]; exact HB.out) (by rw [HH.out]; omega)]
          subst hT
          have d1 : decide ((ch.toNat : Int) < 32) = true := by simpa using hlo
          generalize ch.toNat = cn at *
          go_wp2_with fail
          go_quiet (fail)
          go_wp2_with fail
          go_quiet (fail)
          go_wp2_with fail
          go_ret
          refine ⟨rfl, HF.out.drewN _, t.s, ?_, fun h => by cases h⟩
          rw [show p + (q + 1 - p) = q + 1 from by omega]
          exact HC.out.drewN _
        · have d1 : decide ((ch.toNat : Int) < 32) = false := by simpa using hlo
          by_cases hhi : (ch.toNat : Int) > 126
          · have hT : T = (false, [], q + 1 - p) := by
              rw [HT.out, text_bad hl (by rw [HH.out]; exact HQ.out) (by rw [HH.out]; exact HB.out) (by rw [HH.out]; omega)]
            subst hT
            have d2 : decide ((ch.toNat : Int) > 126) = true := by simpa using hhi
            generalize ch.toNat = cn at *
            go_wp2_with fail
            go_quiet (fail)
            go_wp2_with fail
            go_quiet (fail)
            go_wp2_with fail
            go_ret
            refine ⟨rfl, HF.out.drewN _, t.s, ?_, fun h => by cases h⟩
            rw [show p + (q + 1 - p) = q + 1 from by omega]
            exact HC.out.drewN _
          · have d2 : decide ((ch.toNat : Int) > 126) = false := by simpa using hhi
            have hT : T = text (ob ++ [ch]) (q + 1 - p + 1) (s.drop (q + 1 + 1)) := by
              rw [HT.out, text_on hl (by rw [HH.out]; exact HQ.out) (by rw [HH.out]; exact HB.out) (by rw [HH.out]; omega), HH.out]
            have HT2 := Lib.hid hT
            clear hT HT HQ HB hlo hhi
            go_wp2_with fail
            go_quiet (fail)
            go_wp2_with fail
            go_quiet (fail)
            have hb63 : (bn ob).length + 1 ≤ 1048577 := by rw [bn_length]; omega
            have HB63 := Lib.hid hb63
            have hbase := HF.out.size
            have HBA := Lib.hid hbase
            have hsz : ∀ m, ((w.setCell ⟨c, 1, none⟩ (.int .i64 ((q : Int) + 1))).drewN m).heap.size = w.heap.size := fun m => by simp [World.setCell, World.drewN]
            have HSZ := Lib.hid hsz
            clear hb63 hbase hsz
            go_wp2_with (at_builtin; refine print_append_num w0.heap.size rfl (.tmp 60) (.tmp 62) 34 5 .u8 1 rfl Tryz.underlying34 info5 (by decide) ov (bn ob) (ch.toNat : Int) rfl (by rw [HSZ.out]; rfl) (HO.out.drewN _) (Below.refl _ _) ?cb ?cl ?_)
            case cb => exact HBA.out
            case cl => have := HB63.out; omega
            intro ov1 w1 hown1 _ hgrow1 _
            have hfin := Lib.hid (text_added (HC.out.drewN _) (HF.out.drewN _) (HO.out.drewN _) H0.out hgrow1)
            have HO1 := Lib.hid hown1
            clear hown1 hgrow1
            go_wp2_with fail
            go_step3
            exact ⟨n - 1, by omega, q + 1, ov1, ob ++ [ch], textF_mk _ rfl, by omega, hl, hfin.out.1, hfin.out.2, OwnB.snoc (by simpa using HO1.out), by simp; omega, by omega, .inl ⟨rfl, by rw [HT2.out, show q + 1 + 1 - p = q + 1 - p + 1 from by omega]⟩⟩
  · obtain ⟨aa, cap, hsv⟩ := hct.cur.slice
    have c0 := hct.cur.c0
    have hq2 : ((q : Int) + 1 == (s.length : Int)) = true := by rw [beq_iff_eq]; omega
    rw [hsv] at c0
    have hT : T = (false, [], q + 1 - p) := by rw [HT.out, text_end hl]
    subst hT
    clear hsv hct hct1 hfr hown h0
    go_wp2_with fail
    go_quiet (fail)
    go_wp2_with fail
    go_ret
    refine ⟨rfl, HF.out.drewN _, t.s, ?_, fun h => by cases h⟩
    rw [show p + (q + 1 - p) = q + 1 from by omega]
    exact HC.out.drewN _
end

end Go.Proofs.YtkaeceedofmhbaaGreatDoor
