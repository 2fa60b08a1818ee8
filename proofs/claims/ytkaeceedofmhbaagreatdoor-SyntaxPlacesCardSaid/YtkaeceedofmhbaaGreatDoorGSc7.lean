/-
  scan: integer. Made by gen_int.py (the frame at the three labels is written out).
-/
import Derived.Test.YtkaeceedofmhbaaGreatDoorGSc6
import Derived.StillTailTactics
import Derived.Deep.DeepMust
namespace Go.Proofs.YtkaeceedofmhbaaGreatDoor
open Go.RowKit Bk

def decEnd (d : Bool × Nat × Nat × Bytes) : Bool × Nat × Nat := if d.1 then intEnd d.2.1 d.2.2.1 d.2.2.2 else (false, 0, d.2.2.1)
def hexEnd (d : Bool × Nat × Nat × Bytes) : Bool × Nat × Nat := if d.1 then (if d.2.2.1 = 2 then (false, 0, 2) else intEnd d.2.1 d.2.2.1 d.2.2.2) else (false, 0, d.2.2.1)

set_option maxRecDepth 100000 in
def intJ0F (c p b : Nat) (v : Int) (g : Nat → Value) : Act := { tmps := #[.pointer (some ⟨c, 0, none⟩), .pointer (some ⟨b, 0, none⟩), undef, undef, .bool false, g 5, .int .i64 ((p : Int) + 2), .int .u64 v, g 8, g 9, g 10, g 11, g 12, g 13, g 14, g 15, g 16, g 17, g 18, g 19, g 20, g 21, g 22, g 23, g 24, g 25, g 26, g 27, g 28, g 29, g 30, g 31, g 32, g 33, g 34, g 35, g 36, g 37, g 38, g 39, g 40, g 41, g 42, g 43, g 44, g 45, g 46, g 47, g 48, g 49, g 50, g 51, g 52, g 53, g 54, g 55, g 56, g 57, g 58, g 59, g 60, g 61, g 62, g 63, g 64, g 65, g 66, g 67, g 68, g 69, g 70, g 71, g 72, g 73, g 74, g 75, g 76, g 77, g 78, g 79, g 80, g 81, g 82, g 83, g 84, g 85, g 86, g 87, g 88, g 89, g 90, g 91, g 92, g 93, g 94, g 95, g 96, g 97, g 98, g 99, g 100, g 101, g 102, g 103, g 104, g 105, g 106, g 107, g 108, g 109, g 110, g 111, g 112, g 113, g 114, g 115, g 116, g 117, g 118, g 119, g 120, g 121, g 122, g 123, g 124, g 125, g 126, g 127, g 128, g 129, g 130, g 131, g 132, g 133, g 134, g 135, g 136, g 137, g 138, g 139, g 140, g 141, g 142, g 143, g 144, g 145, g 146, g 147, g 148, g 149, g 150, g 151, g 152, g 153, g 154, g 155, g 156, g 157, g 158, g 159, g 160, g 161, g 162, g 163, g 164, g 165, g 166, g 167, g 168, g 169, g 170, g 171, g 172, g 173, g 174, g 175, g 176, g 177, g 178, g 179, g 180, g 181, g 182, g 183, g 184, g 185, g 186, g 187, g 188, g 189, g 190, g 191], defers := [] }
def intJ0 (X : Nat → Prop) (c : Nat) (sv : Value) (s : Bytes) (p b : Nat) (t : Tok) (w0 : World) (T : Bool × Nat × Nat) (n : Nat) (a : Act) (w : World) : Prop :=
  ∃ (q : Nat) (v : Int), (∃ g, a = intJ0F c p b v g) ∧ p ≤ q ∧ CT X w c sv s q b t ∧ Fr X w0 w ∧ 0 ≤ v ∧ v < q64 ∧ p + 2 ≤ q ∧ s.length - q + 1 ≤ n ∧ T = hexEnd (digits true v.toNat (q - p) (s.drop q))
theorem intJ0_mk (a : Act) {c p b : Nat} {v : Int} (h : a = intJ0F c p b v (fun i => a.tmps.getD i undef)) : ∃ g, a = intJ0F c p b v g := ⟨_, h⟩

set_option maxRecDepth 100000 in
def intJ1F (c _p b : Nat) (v : Int) (g : Nat → Value) : Act := { tmps := #[.pointer (some ⟨c, 0, none⟩), .pointer (some ⟨b, 0, none⟩), undef, undef, .bool false, g 5, g 6, .int .u64 v, g 8, g 9, g 10, g 11, g 12, g 13, g 14, g 15, g 16, g 17, g 18, g 19, g 20, g 21, g 22, g 23, g 24, g 25, g 26, g 27, g 28, g 29, g 30, g 31, g 32, g 33, g 34, g 35, g 36, g 37, g 38, g 39, g 40, g 41, g 42, g 43, g 44, g 45, g 46, g 47, g 48, g 49, g 50, g 51, g 52, g 53, g 54, g 55, g 56, g 57, g 58, g 59, g 60, g 61, g 62, g 63, g 64, g 65, g 66, g 67, g 68, g 69, g 70, g 71, g 72, g 73, g 74, g 75, g 76, g 77, g 78, g 79, g 80, g 81, g 82, g 83, g 84, g 85, g 86, g 87, g 88, g 89, g 90, g 91, g 92, g 93, g 94, g 95, g 96, g 97, g 98, g 99, g 100, g 101, g 102, g 103, g 104, g 105, g 106, g 107, g 108, g 109, g 110, g 111, g 112, g 113, g 114, g 115, g 116, g 117, g 118, g 119, g 120, g 121, g 122, g 123, g 124, g 125, g 126, g 127, g 128, g 129, g 130, g 131, g 132, g 133, g 134, g 135, g 136, g 137, g 138, g 139, g 140, g 141, g 142, g 143, g 144, g 145, g 146, g 147, g 148, g 149, g 150, g 151, g 152, g 153, g 154, g 155, g 156, g 157, g 158, g 159, g 160, g 161, g 162, g 163, g 164, g 165, g 166, g 167, g 168, g 169, g 170, g 171, g 172, g 173, g 174, g 175, g 176, g 177, g 178, g 179, g 180, g 181, g 182, g 183, g 184, g 185, g 186, g 187, g 188, g 189, g 190, g 191], defers := [] }
def intJ1 (X : Nat → Prop) (c : Nat) (sv : Value) (s : Bytes) (p b : Nat) (t : Tok) (w0 : World) (T : Bool × Nat × Nat) (n : Nat) (a : Act) (w : World) : Prop :=
  ∃ (q : Nat) (v : Int), (∃ g, a = intJ1F c p b v g) ∧ p ≤ q ∧ CT X w c sv s q b t ∧ Fr X w0 w ∧ 0 ≤ v ∧ v < q64 ∧ s.length - q + 1 ≤ n ∧ T = decEnd (digits false v.toNat (q - p) (s.drop q))
theorem intJ1_mk (a : Act) {c p b : Nat} {v : Int} (h : a = intJ1F c p b v (fun i => a.tmps.getD i undef)) : ∃ g, a = intJ1F c p b v g := ⟨_, h⟩

set_option maxRecDepth 100000 in
def intJ2F (c _p b : Nat) (v : Int) (g : Nat → Value) : Act := { tmps := #[.pointer (some ⟨c, 0, none⟩), .pointer (some ⟨b, 0, none⟩), undef, undef, .bool false, g 5, g 6, .int .u64 v, g 8, g 9, g 10, g 11, g 12, g 13, g 14, g 15, g 16, g 17, g 18, g 19, g 20, g 21, g 22, g 23, g 24, g 25, g 26, g 27, g 28, g 29, g 30, g 31, g 32, g 33, g 34, g 35, g 36, g 37, g 38, g 39, g 40, g 41, g 42, g 43, g 44, g 45, g 46, g 47, g 48, g 49, g 50, g 51, g 52, g 53, g 54, g 55, g 56, g 57, g 58, g 59, g 60, g 61, g 62, g 63, g 64, g 65, g 66, g 67, g 68, g 69, g 70, g 71, g 72, g 73, g 74, g 75, g 76, g 77, g 78, g 79, g 80, g 81, g 82, g 83, g 84, g 85, g 86, g 87, g 88, g 89, g 90, g 91, g 92, g 93, g 94, g 95, g 96, g 97, g 98, g 99, g 100, g 101, g 102, g 103, g 104, g 105, g 106, g 107, g 108, g 109, g 110, g 111, g 112, g 113, g 114, g 115, g 116, g 117, g 118, g 119, g 120, g 121, g 122, g 123, g 124, g 125, g 126, g 127, g 128, g 129, g 130, g 131, g 132, g 133, g 134, g 135, g 136, g 137, g 138, g 139, g 140, g 141, g 142, g 143, g 144, g 145, g 146, g 147, g 148, g 149, g 150, g 151, g 152, g 153, g 154, g 155, g 156, g 157, g 158, g 159, g 160, g 161, g 162, g 163, g 164, g 165, g 166, g 167, g 168, g 169, g 170, g 171, g 172, g 173, g 174, g 175, g 176, g 177, g 178, g 179, g 180, g 181, g 182, g 183, g 184, g 185, g 186, g 187, g 188, g 189, g 190, g 191], defers := [] }
def intJ2 (X : Nat → Prop) (c : Nat) (sv : Value) (s : Bytes) (p b : Nat) (t : Tok) (w0 : World) (T : Bool × Nat × Nat) (n : Nat) (a : Act) (w : World) : Prop :=
  ∃ (q : Nat) (v : Int), (∃ g, a = intJ2F c p b v g) ∧ p ≤ q ∧ CT X w c sv s q b t ∧ Fr X w0 w ∧ 0 ≤ v ∧ v < q64 ∧ 0 ≤ n ∧ T = intEnd v.toNat (q - p) (s.drop q)
theorem intJ2_mk (a : Act) {c p b : Nat} {v : Int} (h : a = intJ2F c p b v (fun i => a.tmps.getD i undef)) : ∃ g, a = intJ2F c p b v g := ⟨_, h⟩

def intJ (X : Nat → Prop) (c : Nat) (sv : Value) (s : Bytes) (p b : Nat) (t : Tok) (w0 : World) (T : Bool × Nat × Nat) (l n : Nat) (a : Act) (w : World) : Prop :=
  (l = 0 ∧ intJ0 X c sv s p b t w0 T n a w) ∨ (l = 1 ∧ intJ1 X c sv s p b t w0 T n a w) ∨ (l = 2 ∧ intJ2 X c sv s p b t w0 T n a w)

def IntPost (X : Nat → Prop) (c : Nat) (sv : Value) (s : Bytes) (p b : Nat) (t : Tok) (w0 : World) (T : Bool × Nat × Nat) (e : Ending) (w : World) : Prop :=
  e = .returned (.bool T.1) ∧ Fr X w0 w ∧ ∃ v : Int, CT X w c sv s (p + T.2.2) b { t with n := v } ∧ (T.1 = true → v = T.2.1)

theorem digit_bounds {ch : UInt8} (h : cls ch = 3) : 48 ≤ (ch.toNat : Int) ∧ (ch.toNat : Int) ≤ 57 := by
  have key : ∀ n : Fin 256, cls (UInt8.ofNat n.val) = 3 → 48 ≤ n.val ∧ n.val ≤ 57 := by decide +kernel
  have := key ⟨ch.toNat, ch.toNat_lt⟩ (by simpa using h)
  simp only at this
  omega

theorem digits_dec {s : Bytes} {i v k : Nat} (hl : i < s.length) (h : cls s[i] = 3) (hv : v * 10 + (s[i].toNat - 48) < 18446744073709551616) :
    digits false v k (s.drop i) = digits false (v * 10 + (s[i].toNat - 48)) (k + 1) (s.drop (i + 1)) := by
  rw [drop_cons hl, digits]; simp [h, hv]
theorem digits_over {s : Bytes} {i v k : Nat} (hl : i < s.length) (h : cls s[i] = 3) (hv : ¬ v * 10 + (s[i].toNat - 48) < 18446744073709551616) :
    digits false v k (s.drop i) = (false, v, k, s.drop i) := by
  rw [drop_cons hl, digits]; simp [h, hv]
theorem digits_stop {s : Bytes} {i v k : Nat} (h : isCls 3 (s.drop i) = false) : digits false v k (s.drop i) = (true, v, k, s.drop i) := by
  cases hs : s.drop i with
  | nil => rfl
  | cons c r =>
    rw [hs] at h
    rw [digits]
    simp only [isCls] at h
    simp [h]
theorem digits_hex {s : Bytes} {i v k : Nat} (hl : i < s.length) (h : hexv s[i] < 16) (hv : v * 16 + hexv s[i] < 18446744073709551616) :
    digits true v k (s.drop i) = digits true (v * 16 + hexv s[i]) (k + 1) (s.drop (i + 1)) := by
  rw [drop_cons hl, digits]; simp [h, hv]
theorem digits_hover {s : Bytes} {i v k : Nat} (hl : i < s.length) (h : hexv s[i] < 16) (hv : ¬ v * 16 + hexv s[i] < 18446744073709551616) :
    digits true v k (s.drop i) = (false, v, k, s.drop i) := by
  rw [drop_cons hl, digits]; simp [h, hv]
theorem digits_hstop {s : Bytes} {i v k : Nat} (hl : i < s.length) (h : ¬ hexv s[i] < 16) : digits true v k (s.drop i) = (true, v, k, s.drop i) := by
  rw [drop_cons hl, digits]; simp [h]
theorem digits_hend {s : Bytes} {i v k : Nat} (hl : ¬ i < s.length) : digits true v k (s.drop i) = (true, v, k, s.drop i) := by
  rw [List.drop_eq_nil_of_le (by omega)]; rfl

theorem intEnd_plain {s : Bytes} {i v k : Nat} (h : isCls 4 (s.drop i) = false) : intEnd v k (s.drop i) = (!isCls 3 (s.drop i), v, k) := by
  cases hs : s.drop i with
  | nil => rfl
  | cons c r =>
    rw [hs] at h
    simp only [isCls] at h
    have h : ¬ cls c = 4 := by simpa using h
    simp only [intEnd, isCls]
    rw [if_neg h]
theorem intEnd_wrong {s : Bytes} {i v k : Nat} (hl : i < s.length) (h : cls s[i] = 4) (h1 : s[i] ≠ 77) (h2 : s[i] ≠ 75) : intEnd v k (s.drop i) = (false, 0, k) := by
  rw [drop_cons hl]
  simp [intEnd, h, h1, h2]
theorem intEnd_k {s : Bytes} {i v k : Nat} (hl : i < s.length) (h : s[i] = 75) (hv : v * 1024 < 18446744073709551616) : intEnd v k (s.drop i) = (!isCls 4 (s.drop (i + 1)) && !isCls 3 (s.drop (i + 1)), v * 1024, k + 1) := by
  rw [drop_cons hl, h]
  cases hs : s.drop (i + 1) <;> simp [intEnd, isCls, hv, show cls 75 = 4 from rfl]
theorem intEnd_m {s : Bytes} {i v k : Nat} (hl : i < s.length) (h : s[i] = 77) (hv : v * 1048576 < 18446744073709551616) : intEnd v k (s.drop i) = (!isCls 4 (s.drop (i + 1)) && !isCls 3 (s.drop (i + 1)), v * 1048576, k + 1) := by
  rw [drop_cons hl, h]
  cases hs : s.drop (i + 1) <;> simp [intEnd, isCls, hv, show cls 77 = 4 from rfl]
theorem intEnd_kover {s : Bytes} {i v k : Nat} (hl : i < s.length) (h : s[i] = 75) (hv : ¬ v * 1024 < 18446744073709551616) : intEnd v k (s.drop i) = (false, 0, k) := by
  rw [drop_cons hl, h]; simp [intEnd, hv, show cls 75 = 4 from rfl]
theorem intEnd_mover {s : Bytes} {i v k : Nat} (hl : i < s.length) (h : s[i] = 77) (hv : ¬ v * 1048576 < 18446744073709551616) : intEnd v k (s.drop i) = (false, 0, k) := by
  rw [drop_cons hl, h]; simp [intEnd, hv, show cls 77 = 4 from rfl]

noncomputable def intBody : Code := match Tryz.f59.body with | some (.seq _ (.scope c)) => c | _ => .skip
section
variable {X : Nat → Prop} {c : Nat} {sv : Value} {s : Bytes} {p b : Nat} {t : Tok} {w0 : World} {T : Bool × Nat × Nat}

/-- The test on the byte that comes next, of a cursor with a lexeme. -/
theorem is_ct {w : World} {q : Nat} (k : Nat) (h : CT X w c sv s q b t) (hf : Fr X w0 w) :
    Calls Tryz.prog 57 #[.pointer (some ⟨c, 0, none⟩), .int .u8 k] w fun e w' => e = .returned (.bool (isCls k (s.drop q))) ∧ CT X w' c sv s q b t ∧ Fr X w0 w' :=
  (is_c k h.cur).mono fun _ _ ⟨he, n, hw⟩ => ⟨he, hw ▸ h.drewN n, hw ▸ hf.drewN n⟩

set_option maxRecDepth 100000 in
set_option maxHeartbeats 4000000 in
theorem int_dec (n : Nat) (a : Act) (w : World) (hJ : intJ1 X c sv s p b t w0 T n a w) :
    Goes Tryz.prog intBody (intJ X c sv s p b t w0 T) (bodyPost Tryz.prog Tryz.f59 (IntPost X c sv s p b t w0 T)) n 1 a w := by
  refine ⟨_, rfl, ?_⟩
  obtain ⟨q, v, ⟨g, rfl⟩, hpq, hct, hfr, hv0, hv1, hn, hT⟩ := hJ
  unfold intJ1F
  have HC := Lib.hid hct
  have HF := Lib.hid hfr
  have HT := Lib.hid hT
  have HV := Lib.hid hv1
  have hlen := hct.cur.slen
  have hat := hct.cur.atl
  clear hct hfr hT hv1
  by_cases hd : isCls 3 (s.drop q) = true
  · have hl : q < s.length := by
      refine Decidable.byContradiction fun h => ?_
      rw [isCls_end h] at hd; cases hd
    obtain ⟨ch, hch⟩ : ∃ ch : UInt8, s[q] = ch := ⟨_, rfl⟩
    have h3 : cls ch = 3 := by rw [isCls_at hl, hch] at hd; simpa using hd
    obtain ⟨h48, h57⟩ := digit_bounds h3
    have HH := Lib.hid hch
    have H3 := Lib.hid h3
    clear h3 hch
    have hq0 : (0 : Int) ≤ (q : Int) := Int.natCast_nonneg _
    have hq1 : (q : Int) < (s.length : Int) := by omega
    have E1 : IntKind.u8.wrap ((ch.toNat : Int) - 48) = (ch.toNat : Int) - 48 := IntWalk.u8_in _ ⟨by omega, by omega⟩
    have E2 : IntKind.u64.wrap ((ch.toNat : Int) - 48) = (ch.toNat : Int) - 48 := IntWalk.u64_in _ ⟨by omega, by omega⟩
    go_wp2_with fail
    refine (is_ct 3 HC.out HF.out).mono ?_
    rintro e w1 ⟨rfl, hct1, hfr1⟩
    rw [hd]
    obtain ⟨bb, off, cap, hsv, hx, hc1, hc2, hbs⟩ := hct1.cur.shows hl
    have c0 := hct1.cur.c0
    have c1 := hct1.cur.c1
    have cf := hct1.cur.free 1
    have cb := hbs q hl
    rw [hsv] at c0
    rw [HH.out] at cb
    have HC1 := Lib.hid hct1
    have HF1 := Lib.hid hfr1
    clear hbs hx hc1 hc2 hsv hct1 hfr1
    by_cases hov : v * 10 + ((ch.toNat : Int) - 48) < q64
    · have HO := Lib.hid hov
      clear hov
      obtain ⟨v', hv'⟩ : ∃ v', v' = v * 10 + ((ch.toNat : Int) - 48) := ⟨_, rfl⟩
      have HM : ∀ w, Hid _ := fun w => Lib.hid (more_yes v 10 ((ch.toNat : Int) - 48) hv0 (by decide) (by omega) HV.out (by decide) HO.out w)
      rw [← hv'] at HM
      have HV' := Lib.hid hv'
      clear hv'
      go_wp2_with fail
      go_quiet ((go_at_call 88; go_must (exact Calls.quiet_of_same (((HM _).out).mono (by rintro e w' ⟨rfl, rfl⟩; exact ⟨rfl, rfl⟩)))))
      go_wp2_with fail
      go_step3
      refine ⟨n - 1, by omega, .inr (.inl ⟨rfl, q + 1, v', intJ1_mk _ rfl, by omega, ?_, ?_, ?_, ?_, by omega, ?_⟩)⟩
      · exact (HC1.out.drewN nq).step (by omega)
      · exact (HF1.out.drewN nq).setCell HC1.out.cur.xc _
      · rw [HV'.out]; omega
      · rw [HV'.out]; exact HO.out
      · rw [HT.out]
        have hvn : v.toNat * 10 + (ch.toNat - 48) < 18446744073709551616 := by
          have := HO.out; unfold q64 at this; omega
        rw [digits_dec hl (by rw [HH.out]; exact H3.out) (by rw [HH.out]; exact hvn), HH.out]
        have e1 : v'.toNat = v.toNat * 10 + (ch.toNat - 48) := by rw [HV'.out]; omega
        have e2 : q + 1 - p = q - p + 1 := by omega
        rw [e1, e2]
    · have HO := Lib.hid hov
      clear hov
      obtain ⟨v', HM⟩ := more_no v 10 ((ch.toNat : Int) - 48) hv0 (by decide) (by omega) HV.out (by decide) (by unfold q64; omega) HO.out
      have HM := Lib.hid HM
      have hT : T = (false, 0, q - p) := by
        have hvn : ¬ v.toNat * 10 + (ch.toNat - 48) < 18446744073709551616 := by
          have := HO.out; unfold q64 at this; omega
        rw [HT.out, digits_over hl (by rw [HH.out]; exact H3.out) (by rw [HH.out]; exact hvn)]; rfl
      subst hT
      go_wp2_with fail
      go_quiet ((go_at_call 88; go_must (exact Calls.quiet_of_same ((HM.out _).mono (by rintro e w' ⟨rfl, rfl⟩; exact ⟨rfl, rfl⟩)))))
      go_wp2_with fail
      go_ret
      exact ⟨rfl, by exact HF1.out.drewN nq, t.n, by rw [show p + (q - p) = q from by omega]; exact HC1.out.drewN nq, by simp⟩
  · have hT : T = intEnd v.toNat (q - p) (s.drop q) := by
      rw [HT.out, digits_stop (by simpa using hd)]; rfl
    have HT2 := Lib.hid hT
    clear HT hT
    have hd' : isCls 3 (s.drop q) = false := by simpa using hd
    clear hd
    go_wp2_with fail
    refine (is_ct 3 HC.out HF.out).mono ?_
    rintro e w1 ⟨rfl, hct1, hfr1⟩
    rw [hd']
    have HC1 := Lib.hid hct1
    have HF1 := Lib.hid hfr1
    clear hct1 hfr1
    go_wp2_with fail
    go_step3
    exact ⟨0, by omega, .inr (.inr ⟨rfl, q, v, intJ2_mk _ rfl, hpq, HC1.out, HF1.out, hv0, HV.out, Nat.zero_le _, HT2.out⟩)⟩
end

end Go.Proofs.YtkaeceedofmhbaaGreatDoor
