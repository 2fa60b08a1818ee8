/-
  scan: hex (by way of strconv.ParseUint of one byte, written as a text, in base 16).
  scan: hex.
  A scope in which the run jumps between several labels: what holds at each label bears a number, which every pass lowers.
  scan: a cursor and a lexeme beside it; more, as it is called.
-/
import Derived.Test.YtkaeceedofmhbaaGreatDoorGSc3
import Derived.WalkLawsBesides
import Derived.Lib.ConvBytes
import Derived.LoopN
import Derived.Scope
import Derived.WalkKit
namespace Go.Proofs.YtkaeceedofmhbaaGreatDoor
open Go.RowKit Bk

/-- '[]byte(s)' of a text that has a byte. -/
theorem conv_text (b : UInt8) (s : ByteArray) (hs : s.data.toList.head? = some b) (w : World) : ∃ W cap, (convert 9 34 (.string s)).run Tryz.prog w = .ok (.slice (some ⟨w.heap.size, 0, none⟩) s.size cap) W ∧
    W.cell? ⟨w.heap.size, 0, none⟩ = some (.int .u8 b.toNat) ∧ Below w.heap.size w W := by
  have hl : 0 < s.size := by
    show 0 < s.data.size
    rw [← Array.length_toList]
    cases h : s.data.toList with
    | nil => rw [h] at hs; simp at hs
    | cons => simp
  refine ⟨_, _, Lib.run_convert_string_bytes w 9 34 5 s Tryz.underlying9 Tryz.underlying34 Tryz.underlying5, ?_, ?_⟩
  · rw [Lib.bytesWorld_cell w 5 s 0 hl]
    cases h : s.data.toList with
    | nil => rw [h] at hs; simp at hs
    | cons c r => rw [h] at hs; simp at hs; subst hs; rfl
  · refine ⟨?_, ?_, ?_, ?_, fun k hk => Lib.bytesWorld_at_old w 5 _ k hk⟩
    · simp [Lib.bytesWorld, World.freeze, World.alloc, World.drew, -World.alloc_eq, -World.drew_eq]
    · simp [Lib.bytesWorld, World.freeze, World.alloc, World.drew, -World.alloc_eq, -World.drew_eq]
    · simp [Lib.bytesWorld, World.freeze, World.alloc, World.drew, -World.alloc_eq, -World.drew_eq]
    · rw [Lib.bytesWorld_size]; omega

theorem lower_c (b : Int) (w : World) : Calls Tryz.prog 172 #[.int .u8 b] w fun e w' => e = .returned (.int .u8 (bits BinOp.or IntKind.u8 b 32)) ∧ w = w' :=
  (Tryz.internal_strconv_lower b w).mono fun _ _ h => ⟨h.1, h.2.symm⟩

set_option maxRecDepth 100000 in
set_option maxHeartbeats 1000000 in
theorem pu_digit (b : UInt8) (h1 : 48 ≤ (b.toNat : Int)) (h2 : (b.toNat : Int) ≤ 57) (w : World) :
    Calls Tryz.prog 158 #[.string ⟨#[b]⟩, .int .i64 16, .int .i64 8] w fun e w' => e = .returned (.tuple #[.int .u64 (b.toNat - 48 : Int), .nilIface]) ∧ Below w.heap.size w w' := by
  have e1 : ((b.toNat : Int) == 95) = false := by rw [beq_eq_false_iff_ne]; omega
  obtain ⟨W, cap, hW, hc, hB⟩ := conv_text b ⟨#[b]⟩ rfl w
  have HB := Lib.hid hB
  clear hB
  go_enter Tryz.func158, Tryz.ntmps158
  go_wp2_with fail
  refine wp_loop_rounds 2 ?_
  rw [rounds_succ]
  go_wp2_with fail
  rw [rounds_succ]
  go_wp2_with fail
  go_ret2
  exact ⟨rfl, HB.out⟩

set_option maxRecDepth 100000 in
set_option maxHeartbeats 1000000 in
theorem pu_letter (b : UInt8) (l : Int) (hl : bits BinOp.or IntKind.u8 (b.toNat : Int) 32 = l) (h1 : 57 < (b.toNat : Int)) (h2 : 97 ≤ l) (h3 : l ≤ 102) (hb : (b.toNat : Int) ≠ 95) (w : World) :
    Calls Tryz.prog 158 #[.string ⟨#[b]⟩, .int .i64 16, .int .i64 8] w fun e w' => e = .returned (.tuple #[.int .u64 (l - 97 + 10), .nilIface]) ∧ Below w.heap.size w w' := by
  have e1 : ((b.toNat : Int) == 95) = false := by rw [beq_eq_false_iff_ne]; omega
  obtain ⟨W, cap, hW, hc, hB⟩ := conv_text b ⟨#[b]⟩ rfl w
  have HB := Lib.hid hB
  clear hB hb
  go_enter Tryz.func158, Tryz.ntmps158
  go_wp2_with fail
  refine wp_loop_rounds 2 ?_
  rw [rounds_succ]
  go_wp2_with (go_at_call 172; refine (lower_c _ _).mono ?_; rintro e w1 ⟨rfl, rfl⟩)
  rw [rounds_succ]
  go_wp2_with fail
  go_ret2
  exact ⟨rfl, HB.out⟩

set_option maxRecDepth 100000 in
set_option maxHeartbeats 2000000 in
/-- A letter that is no hex digit. -/
theorem pu_far (b : UInt8) (l : Int) (hl : bits BinOp.or IntKind.u8 (b.toNat : Int) 32 = l) (h1 : 57 < (b.toNat : Int)) (h2 : 103 ≤ l) (h3 : l ≤ 122) (hb : (b.toNat : Int) ≠ 95) (w : World) :
    Calls Tryz.prog 158 #[.string ⟨#[b]⟩, .int .i64 16, .int .i64 8] w fun e w' => e = .returned (.tuple #[.int .u64 0, .iface 186 (.int .i64 2)]) ∧ Below w.heap.size w w' := by
  have e1 : ((b.toNat : Int) == 95) = false := by rw [beq_eq_false_iff_ne]; omega
  obtain ⟨W, cap, hW, hc, hB⟩ := conv_text b ⟨#[b]⟩ rfl w
  have HB := Lib.hid hB
  clear hB hb
  go_enter Tryz.func158, Tryz.ntmps158
  go_wp2_with fail
  refine wp_loop_rounds 2 ?_
  rw [rounds_succ]
  go_wp2_with (go_at_call 172; refine (lower_c _ _).mono ?_; rintro e w1 ⟨rfl, rfl⟩)
  go_ret2
  exact ⟨rfl, HB.out⟩

set_option maxRecDepth 100000 in
set_option maxHeartbeats 4000000 in
/-- A text whose first byte is no digit and no letter. -/
theorem pu_other (b : UInt8) (s : ByteArray) (hs : s = ⟨#[b]⟩ ∨ ∃ c, s = ⟨#[b, c]⟩) (l : Int) (hl : bits BinOp.or IntKind.u8 (b.toNat : Int) 32 = l) (h1 : (b.toNat : Int) < 48 ∨ 57 < (b.toNat : Int)) (h2 : l < 97 ∨ 122 < l) (hb : (b.toNat : Int) ≠ 95) (w : World) :
    Calls Tryz.prog 158 #[.string s, .int .i64 16, .int .i64 8] w fun e w' => e = .returned (.tuple #[.int .u64 0, .iface 186 (.int .i64 2)]) ∧ Below w.heap.size w w' := by
  have e1 : ((b.toNat : Int) == 95) = false := by rw [beq_eq_false_iff_ne]; omega
  obtain ⟨W, cap, hW, hc, hB⟩ := conv_text b s (by rcases hs with rfl | ⟨c, rfl⟩ <;> rfl) w
  have HB := Lib.hid hB
  clear hB hb
  rcases hs with rfl | ⟨c, rfl⟩ <;> rcases h1 with h1 | h1 <;> rcases h2 with h2 | h2
  all_goals
    go_enter Tryz.func158, Tryz.ntmps158
    go_wp2_with fail
    refine wp_loop_rounds 2 ?_
    rw [rounds_succ]
    go_wp2_with (go_at_call 172; refine (lower_c _ _).mono ?_; rintro e w1 ⟨rfl, rfl⟩)
    go_ret2
    exact ⟨rfl, HB.out⟩

set_option maxRecDepth 100000 in
set_option maxHeartbeats 1000000 in
theorem pu_under (w : World) :
    Calls Tryz.prog 158 #[.string ⟨#[95]⟩, .int .i64 16, .int .i64 8] w fun e w' => e = .returned (.tuple #[.int .u64 0, .iface 186 (.int .i64 2)]) ∧ Below w.heap.size w w' := by
  obtain ⟨W, cap, hW, hc, hB⟩ := conv_text 95 ⟨#[95]⟩ rfl w
  have hc : W.cell? ⟨w.heap.size, 0, none⟩ = some (.int .u8 95) := hc
  have hl : bits BinOp.or IntKind.u8 95 32 = 127 := by decide
  have HB := Lib.hid hB
  clear hB
  go_enter Tryz.func158, Tryz.ntmps158
  go_wp2_with fail
  refine wp_loop_rounds 2 ?_
  rw [rounds_succ]
  go_wp2_with (go_at_call 172; refine (lower_c _ _).mono ?_; rintro e w1 ⟨rfl, rfl⟩)
  go_ret2
  exact ⟨rfl, HB.out⟩

/-- What ParseUint is handed for a byte: its rune, written. -/
def runeOf (b : UInt8) : ByteArray := Utf8.encode (b.toNat : Int)

theorem or32 : ∀ n : Fin 256, bits BinOp.or IntKind.u8 (n.val : Int) 32 = ((n.val ||| 32 : Nat) : Int) := by decide +kernel
theorem enc_low : ∀ n : Fin 128, (Utf8.encode (n.val : Int)).data.toList = [UInt8.ofNat n.val] := by decide +kernel
theorem enc_high : ∀ n : Fin 128, ∃ c : UInt8, (Utf8.encode ((n.val + 128 : Nat) : Int)).data.toList = [if n.val < 64 then 194 else 195, c] := by
  intro n
  have key : ∀ n : Fin 128, (Utf8.encode ((n.val + 128 : Nat) : Int)).data.toList = [if n.val < 64 then 194 else 195, (Utf8.encode ((n.val + 128 : Nat) : Int)).data.toList.getD 1 0] := by decide +kernel
  exact ⟨_, key n⟩
end Go.Proofs.YtkaeceedofmhbaaGreatDoor
namespace Go.Proofs.YtkaeceedofmhbaaGreatDoor
open Go.RowKit Bk

theorem pw_ok (s : ByteArray) (v : Int) (w : World) (h : Calls Tryz.prog 158 #[.string s, .int .i64 16, .int .i64 8] w fun e w' => e = .returned (.tuple #[.int .u64 v, .nilIface]) ∧ Below w.heap.size w w') :
    Calls Tryz.prog 132 #[.string s, .int .i64 16, .int .i64 8] w fun e w' => e = .returned (.tuple #[.int .u64 v, .nilIface]) ∧ Below w.heap.size w w' := by
  have H := Lib.hid h
  clear h
  go_enter Tryz.func132, Tryz.ntmps132
  go_wp2_with fail
  refine H.out.mono ?_
  rintro e w1 ⟨rfl, hb⟩
  have HB := Lib.hid hb
  clear hb
  go_wp2_with fail
  go_ret2
  exact ⟨rfl, HB.out⟩

theorem pw_bad (s : ByteArray) (w : World) (hs : s.size ≤ 281474976710656) (hg : Glob w) (h5 : 5 < w.heap.size)
    (h : Calls Tryz.prog 158 #[.string s, .int .i64 16, .int .i64 8] w fun e w' => e = .returned (.tuple #[.int .u64 0, .iface 186 (.int .i64 2)]) ∧ Below w.heap.size w w') :
    Calls Tryz.prog 132 #[.string s, .int .i64 16, .int .i64 8] w fun e w' => (∃ a, e = .returned (.tuple #[.int .u64 0, .iface 187 (.pointer (some a))])) ∧ Below w.heap.size w w' := by
  have H := Lib.hid h
  obtain ⟨a5, hsyn⟩ := hg.syn
  have hsyn := Lib.hid hsyn
  clear h hg
  go_enter Tryz.func132, Tryz.ntmps132
  go_wp2_with fail
  refine H.out.mono ?_
  rintro e w1 ⟨rfl, hb⟩
  have HB := Lib.hid hb
  have c5 := Lib.hid ((hb.cell (p := ⟨5, 0, none⟩) h5).trans hsyn.out)
  clear hb
  go_wp2_with fail
  refine (Tryz.strconv_toError_syntax _ s 16 8 _ w1 hs c5.out (.inr ⟨_, _, rfl⟩)).mono ?_
  rintro e w2 ⟨N, rfl, h1, h2, hb2⟩
  have HB2 := Lib.hid hb2
  clear hb2 h1 h2
  go_wp2_with fail
  go_ret2
  exact ⟨⟨_, rfl⟩, HB.out.trans (HB2.out.mono HB.out.size)⟩

theorem hexv_tab : ∀ n : Fin 256, hexv (UInt8.ofNat n.val) = if 48 ≤ n.val ∧ n.val ≤ 57 then n.val - 48 else if n.val ≠ 95 ∧ 57 < n.val ∧ 97 ≤ (n.val ||| 32) ∧ (n.val ||| 32) ≤ 102 then (n.val ||| 32) - 87 else 16 := by decide +kernel
theorem high_tab : ∀ n : Fin 256, 128 ≤ n.val → 122 < (n.val ||| 32) := by decide +kernel

set_option maxRecDepth 100000 in
theorem hexv_ok (c : UInt8) (w : World) (h : c.toNat < 128) (hx : hexv c ≠ 16) : Calls Tryz.prog 158 #[.string (runeOf c), .int .i64 16, .int .i64 8] w fun e w' => e = .returned (.tuple #[.int .u64 (hexv c : Int), .nilIface]) ∧ Below w.heap.size w w' := by
  have hlt := c.toNat_lt
  have t := hexv_tab ⟨c.toNat, hlt⟩
  have e := or32 ⟨c.toNat, hlt⟩
  have er : runeOf c = ⟨#[c]⟩ := by
    have := enc_low ⟨c.toNat, h⟩
    simp only [UInt8.ofNat_toNat] at this
    unfold runeOf
    rw [show (Utf8.encode (c.toNat : Int)) = ⟨(Utf8.encode (c.toNat : Int)).data.toList.toArray⟩ from by simp, this]
  simp only [UInt8.ofNat_toNat] at t e
  rw [er]
  by_cases h1 : 48 ≤ c.toNat ∧ c.toNat ≤ 57
  · rw [if_pos h1] at t
    rw [t]
    refine (pu_digit c (by omega) (by omega) w).mono ?_
    rintro e w' ⟨rfl, hb⟩
    exact ⟨by rw [show ((c.toNat - 48 : Nat) : Int) = (c.toNat : Int) - 48 from by omega], hb⟩
  · rw [if_neg h1] at t
    by_cases h2 : c.toNat ≠ 95 ∧ 57 < c.toNat ∧ 97 ≤ (c.toNat ||| 32) ∧ (c.toNat ||| 32) ≤ 102
    · rw [if_pos h2] at t
      rw [t]
      refine (pu_letter c _ e (by omega) (by omega) (by omega) (by omega) w).mono ?_
      rintro e w' ⟨rfl, hb⟩
      exact ⟨by rw [show (((c.toNat ||| 32) - 87 : Nat) : Int) = ((c.toNat ||| 32 : Nat) : Int) - 97 + 10 from by omega], hb⟩
    · rw [if_neg h2] at t
      exact absurd t hx

set_option maxRecDepth 100000 in
theorem hexv_bad (c : UInt8) (w : World) (hx : hexv c = 16) : (runeOf c).size ≤ 2 ∧ Calls Tryz.prog 158 #[.string (runeOf c), .int .i64 16, .int .i64 8] w fun e w' => e = .returned (.tuple #[.int .u64 0, .iface 186 (.int .i64 2)]) ∧ Below w.heap.size w w' := by
  have hlt := c.toNat_lt
  have t := hexv_tab ⟨c.toNat, hlt⟩
  have e := or32 ⟨c.toNat, hlt⟩
  simp only [UInt8.ofNat_toNat] at t e
  by_cases h : c.toNat < 128
  · have er : runeOf c = ⟨#[c]⟩ := by
      have := enc_low ⟨c.toNat, h⟩
      simp only [UInt8.ofNat_toNat] at this
      unfold runeOf
      rw [show (Utf8.encode (c.toNat : Int)) = ⟨(Utf8.encode (c.toNat : Int)).data.toList.toArray⟩ from by simp, this]
    rw [er]
    refine ⟨by simp [ByteArray.size], ?_⟩
    by_cases h1 : 48 ≤ c.toNat ∧ c.toNat ≤ 57
    · rw [if_pos h1] at t; omega
    · rw [if_neg h1] at t
      by_cases h95 : c.toNat = 95
      · have : c = 95 := UInt8.toNat_inj.1 h95
        subst this
        exact pu_under w
      · by_cases h2 : 57 < c.toNat ∧ 97 ≤ (c.toNat ||| 32) ∧ (c.toNat ||| 32) ≤ 122
        · by_cases h3 : (c.toNat ||| 32) ≤ 102
          · rw [if_pos ⟨h95, h2.1, h2.2.1, h3⟩] at t; omega
          · exact pu_far c _ e (by omega) (by omega) (by omega) (by omega) w
        · have h48 : ∀ n : Fin 48, (n.val ||| 32) < 97 := by decide
          refine pu_other c _ (.inl rfl) _ e (by omega) ?_ (by omega) w
          by_cases h57 : c.toNat < 48
          · have := h48 ⟨c.toNat, h57⟩
            simp only at this
            omega
          · omega
  · obtain ⟨d, hd⟩ := enc_high ⟨c.toNat - 128, by omega⟩
    rw [show ((((⟨c.toNat - 128, by omega⟩ : Fin 128).val + 128 : Nat)) : Int) = (c.toNat : Int) from by simp; omega] at hd
    obtain ⟨b, hb, hbb⟩ : ∃ b : UInt8, runeOf c = ⟨#[b, d]⟩ ∧ (b = 194 ∨ b = 195) := by
      by_cases h64 : c.toNat - 128 < 64
      · rw [if_pos h64] at hd
        refine ⟨194, ?_, .inl rfl⟩
        unfold runeOf
        rw [show (Utf8.encode (c.toNat : Int)) = ⟨(Utf8.encode (c.toNat : Int)).data.toList.toArray⟩ from by simp, hd]
      · rw [if_neg h64] at hd
        refine ⟨195, ?_, .inr rfl⟩
        unfold runeOf
        rw [show (Utf8.encode (c.toNat : Int)) = ⟨(Utf8.encode (c.toNat : Int)).data.toList.toArray⟩ from by simp, hd]
    rw [hb]
    refine ⟨by simp [ByteArray.size], ?_⟩
    rcases hbb with rfl | rfl
    · exact pu_other 194 _ (.inr ⟨d, rfl⟩) 226 (by decide) (by decide) (by decide) (by decide) w
    · exact pu_other 195 _ (.inr ⟨d, rfl⟩) 227 (by decide) (by decide) (by decide) (by decide) w

theorem hexv_le : ∀ c : UInt8, hexv c ≤ 16 := by
  intro c
  unfold hexv
  split
  · omega
  · split
    · omega
    · split <;> omega

theorem hexv_low {c : UInt8} (h : hexv c ≠ 16) : ¬ 127 < c.toNat := by
  intro hc
  apply h
  unfold hexv
  rw [if_neg (by omega), if_neg (by omega), if_neg (by omega)]

theorem hex_ok (n : Nat) (v : Int) (rc : ByteArray) (w : World) (er : Utf8.encode (n : Int) = rc) (h127 : ¬ 127 < (n : Int))
    (h : Calls Tryz.prog 132 #[.string rc, .int .i64 16, .int .i64 8] w fun e w' => e = .returned (.tuple #[.int .u64 v, .nilIface]) ∧ Below w.heap.size w w') :
    Calls Tryz.prog 89 #[.int .u8 (n : Int)] w fun e w' => e = .returned (.int .u64 v) ∧ Below w.heap.size w w' := by
  have H := Lib.hid h
  clear h
  go_enter Tryz.func89, Tryz.ntmps89
  go_wp2_with fail
  refine H.out.mono ?_
  rintro e w1 ⟨rfl, hb⟩
  have HB := Lib.hid hb
  clear hb er
  go_wp2_with fail
  go_ret
  exact ⟨rfl, HB.out⟩

set_option maxRecDepth 100000 in
theorem hex_c (c : UInt8) (w : World) (hg : Glob w) (h5 : low ≤ w.heap.size) :
    Calls Tryz.prog 89 #[.int .u8 (c.toNat : Int)] w fun e w' => e = .returned (.int .u64 (hexv c : Int)) ∧ Below w.heap.size w w' := by
  by_cases hx : hexv c = 16
  · rw [hx]
    have h := hexv_bad c w hx
    have H := Lib.hid (pw_bad (runeOf c) w (by omega) hg (by unfold low at h5; omega) h.2)
    have er : Utf8.encode (c.toNat : Int) = runeOf c := rfl
    clear h hg
    go_enter Tryz.func89, Tryz.ntmps89
    go_wp2_with fail
    refine H.out.mono ?_
    rintro e w1 ⟨⟨a, rfl⟩, hb⟩
    have HB := Lib.hid hb
    clear hb
    go_wp2_with fail
    go_ret
    exact ⟨rfl, HB.out⟩
  · have hlow := hexv_low hx
    exact hex_ok c.toNat (hexv c) (runeOf c) w rfl (by omega) (pw_ok (runeOf c) _ w (hexv_ok c w (by omega) hx))
end Go.Proofs.YtkaeceedofmhbaaGreatDoor
namespace Go.Proofs.YtkaeceedofmhbaaGreatDoor
open Go

/-- As Q; by a goto to label l: J at l, at some number below n. -/
def jumps (J : Nat → Nat → Act → World → Prop) (n : Nat) (Q : Exit → Act → World → Prop) : Exit → Act → World → Prop
  | .goto l, a, w => ∃ m, m < n ∧ J l m a w
  | e, a, w => Q e a w

section
variable {P : Program} {a : Act} {w : World} {Q : Exit → Act → World → Prop}

theorem jumps_mono {J : Nat → Nat → Act → World → Prop} {m n : Nat} (h : m ≤ n) (e : Exit) (a : Act) (w : World) (k : jumps J m Q e a w) : jumps J n Q e a w := by
  cases e with
  | goto l => obtain ⟨p, hp, hj⟩ := k; exact ⟨p, by omega, hj⟩
  | normal => exact k
  | exit id => exact k
  | ret => exact k
  | panic ch => exact k
  | outgrown => exact k

/-- From label l on, at n: what is behind it comes to Q, or to a label at less than n. -/
def Goes (P : Program) (c : Code) (J : Nat → Nat → Act → World → Prop) (Q : Exit → Act → World → Prop) (n l : Nat) (a : Act) (w : World) : Prop :=
  ∃ rest, findLabel c l = some (.seq .skip rest) ∧ rest.wp P (jumps J n Q) a w

theorem Goes.use {c : Code} {J : Nat → Nat → Act → World → Prop} {n l : Nat} {rest : Code} (h : Goes P c J Q n l a w) (hf : findLabel c l = some (.seq .skip rest)) : rest.wp P (jumps J n Q) a w := by
  obtain ⟨r, h1, h2⟩ := h
  rw [hf] at h1
  cases h1
  exact h2

theorem wp_scope_labels {c : Code} (J : Nat → Nat → Act → World → Prop) (n₀ : Nat)
    (pass : ∀ n, (∀ m l a w, m < n → J l m a w → Goes P c J Q n l a w) → ∀ l a w, J l n a w → Goes P c J Q n l a w)
    (first : (∀ m l a w, m < n₀ → J l m a w → Goes P c J Q n₀ l a w) → c.wp P (jumps J n₀ Q) a w) : (Code.scope c).wp P Q a w := by
  have all : ∀ n, ∀ l a w, J l n a w → Goes P c J Q n l a w := by
    intro n
    induction n using Nat.strongRecOn with
    | _ n ih =>
      refine pass n ?_
      intro m l a w hm hJ
      obtain ⟨rest, hf, hp⟩ := ih m hm l a w hJ
      exact ⟨rest, hf, wp_mono hp (jumps_mono (by omega))⟩
  have fst : c.wp P (jumps J n₀ Q) a w := by
    refine first ?_
    intro m l a w hm hJ
    obtain ⟨rest, hf, hp⟩ := all m l a w hJ
    exact ⟨rest, hf, wp_mono hp (jumps_mono (by omega))⟩
  intro b k cs
  have key : ∀ n l a w, J l n a w → ∃ rest, gotoIn l (.inScope c :: k) = some (.code rest :: .inScope c :: k) ∧ ∃ e a' w', Q e a' w' ∧ Arrives P (lone (b.at a (.code rest :: .inScope c :: k)) cs w) b k cs e a' w' := by
    intro n
    induction n using Nat.strongRecOn with
    | _ n ih =>
      intro l a w hJ
      obtain ⟨rest, hf, hp⟩ := all n l a w hJ
      have hp : (Code.seq .skip rest).wp P (jumps J n Q) a w := wp_seq (wp_skip hp)
      refine ⟨.seq .skip rest, by simp [gotoIn, hf], ?_⟩
      obtain ⟨e, a₁, w₁, hq, harr⟩ := hp b (.inScope c :: k) cs
      cases e with
      | normal => exact ⟨.normal, a₁, w₁, hq, Steps.trans harr (.one step_inScope)⟩
      | exit id => exact ⟨.exit id, a₁, w₁, hq, fun k' hk => harr k' (by simp [exitTo, hk])⟩
      | goto l' =>
        obtain ⟨m, hlt, hJ'⟩ := hq
        obtain ⟨rest', hg, e₂, a₂, w₂, hq₂, harr₂⟩ := ih m hlt l' a₁ w₁ hJ'
        exact ⟨e₂, a₂, w₂, hq₂, .of_steps (harr _ hg) harr₂⟩
      | ret => exact ⟨_, a₁, w₁, hq, harr⟩
      | panic ch => exact ⟨_, a₁, w₁, hq, harr⟩
      | outgrown => exact ⟨_, a₁, w₁, hq, harr⟩
  obtain ⟨e, a₁, w₁, hq, harr⟩ := fst b (.inScope c :: k) cs
  cases e with
  | normal => exact ⟨.normal, a₁, w₁, hq, .head step_scope (Steps.trans harr (.one step_inScope))⟩
  | exit id => exact ⟨.exit id, a₁, w₁, hq, fun k' hk => .head step_scope (harr k' (by simp [exitTo, hk]))⟩
  | goto l' =>
    obtain ⟨m, hlt, hJ'⟩ := hq
    obtain ⟨rest', hg, e₂, a₂, w₂, hq₂, harr₂⟩ := key m l' a₁ w₁ hJ'
    exact ⟨e₂, a₂, w₂, hq₂, .of_steps (.head step_scope (harr _ hg)) harr₂⟩
  | ret => exact ⟨_, a₁, w₁, hq, .of_steps (.one step_scope) harr⟩
  | panic ch => exact ⟨_, a₁, w₁, hq, .of_steps (.one step_scope) harr⟩
  | outgrown => exact ⟨_, a₁, w₁, hq, .of_steps (.one step_scope) harr⟩
end
end Go.Proofs.YtkaeceedofmhbaaGreatDoor
namespace Go.Proofs.YtkaeceedofmhbaaGreatDoor
open Go.RowKit Bk

def tokCells (t : Tok) : List Value := [.int .i64 t.kind, .int .u64 t.n, str t.s, .int .i64 t.at_, .int .i64 t.end_]

/-- A cursor, and a lexeme at a block of its own. -/
structure CT (X : Nat → Prop) (w : World) (c : Nat) (sv : Value) (s : Bytes) (at_ : Nat) (b : Nat) (t : Tok) : Prop where
  cur : Cur X w c sv s at_
  tok : w.heap[b]? = some (.cells (tokCells t).toArray 49 (0, 0))
  xb : ¬ X b

section
variable {X : Nat → Prop} {w : World} {c : Nat} {sv : Value} {s : Bytes} {at_ : Nat} {b : Nat} {t : Tok}
theorem CT.ne (h : CT X w c sv s at_ b t) : c ≠ b := by
  rintro rfl
  have h1 := h.cur.blk
  have h2 := h.tok
  rw [h1] at h2
  cases h2
theorem CT.world (h : CT X w c sv s at_ b t) {w' : World} (hs : w.heap.size ≤ w'.heap.size) (hb : ∀ k, k < w.heap.size → w'.heap[k]? = w.heap[k]?) : CT X w' c sv s at_ b t :=
  ⟨h.cur.world hs (hb c (lt_of_block h.cur.blk)) fun k hk => hb k (h.cur.xlt k hk), by rw [hb b (lt_of_block h.tok)]; exact h.tok, h.xb⟩
theorem CT.drewN (h : CT X w c sv s at_ b t) (n : Nat) : CT X (w.drewN n) c sv s at_ b t := h.world (Nat.le_refl _) fun _ _ => rfl
theorem CT.below (h : CT X w c sv s at_ b t) {w' : World} (hb : Below w.heap.size w w') : CT X w' c sv s at_ b t := h.world hb.size hb.block
theorem CT.alloc (h : CT X w c sv s at_ b t) (o : Obj) : CT X (w.alloc o) c sv s at_ b t := h.world (by simp) fun k hk => Below.heap_alloc _ _ _ hk
theorem CT.step (h : CT X w c sv s at_ b t) (hl : at_ + 1 ≤ s.length) : CT X (w.setCell ⟨c, 1, none⟩ (.int .i64 ((at_ : Int) + 1))) c sv s (at_ + 1) b t :=
  ⟨h.cur.step hl, by rw [Below.heap_setCell _ _ _ _ (show b ≠ (⟨c, 1, none⟩ : Addr).block from fun e => h.ne e.symm)]; exact h.tok, h.xb⟩
theorem CT.step2 (h : CT X w c sv s at_ b t) (hl : at_ + 2 ≤ s.length) : CT X (w.setCell ⟨c, 1, none⟩ (.int .i64 ((at_ : Int) + 2))) c sv s (at_ + 2) b t :=
  ⟨by have := h.cur.set (at_ + 2) hl; simpa using this, by rw [Below.heap_setCell _ _ _ _ (show b ≠ (⟨c, 1, none⟩ : Addr).block from fun e => h.ne e.symm)]; exact h.tok, h.xb⟩
/-- The lexeme's block, written. -/
theorem CT.put (h : CT X w c sv s at_ b t) {t' : Tok} (i : Nat) (u : Value) (hu : (tokCells t).set i u = tokCells t') : CT X (w.setCell ⟨b, i, none⟩ u) c sv s at_ b t' := by
  refine ⟨h.cur.world (by simp [World.setCell]) (Below.heap_setCell _ _ _ _ h.ne) (fun k hk => Below.heap_setCell _ _ _ _ (fun e => h.xb ((show k = b from e) ▸ hk))), ?_, h.xb⟩
  have := blk_set h.tok i u
  rw [hu] at this
  exact this
theorem CT.cell (h : CT X w c sv s at_ b t) (i : Nat) : w.cell? ⟨b, i, none⟩ = (tokCells t)[i]? := cell_of_blk h.tok i
theorem CT.tfree (h : CT X w c sv s at_ b t) (i : Nat) : w.frozen? ⟨b, i, none⟩ = false := free_of_blk h.tok i
theorem CT.low (h : CT X w c sv s at_ b t) : low ≤ w.heap.size := by
  have := h.cur.xlt (Go.Proofs.YtkaeceedofmhbaaGreatDoor.low - 1) (h.cur.gx _ (by decide))
  unfold Go.Proofs.YtkaeceedofmhbaaGreatDoor.low at this ⊢
  omega
theorem CT.lt (h : CT X w c sv s at_ b t) : c < w.heap.size := lt_of_block h.cur.blk
end

def q64 : Int := 18446744073709551616
theorem q64_p64 : q64 = (p64 : Int) := by decide

theorem more_yes (n f d : Int) (hn : 0 ≤ n) (hf : 0 ≤ f) (hd : 0 ≤ d) (hn' : n < q64) (hf' : f < q64) (h : n * f + d < q64) (w : World) :
    Calls Tryz.prog 88 #[.int .u64 n, .int .u64 f, .int .u64 d] w fun e w' => e = .returned (.tuple #[.int .u64 (n * f + d), .bool true]) ∧ w = w' := by
  obtain ⟨n, rfl⟩ := Int.eq_ofNat_of_zero_le hn
  obtain ⟨f, rfl⟩ := Int.eq_ofNat_of_zero_le hf
  obtain ⟨d, rfl⟩ := Int.eq_ofNat_of_zero_le hd
  rw [q64_p64] at *
  have h' : n * f + d < p64 := by exact_mod_cast h
  refine (more_c n f d (by omega) (by omega) (by omega) w).mono ?_
  rintro e w' ⟨rfl, rfl⟩
  have e1 : (n * f % p64 + d) % p64 = n * f + d := by
    rw [Nat.mod_eq_of_lt (show n * f < p64 by omega), Nat.mod_eq_of_lt h']
  rw [e1, decide_eq_true h']
  exact ⟨by simp, rfl⟩

theorem more_no (n f d : Int) (hn : 0 ≤ n) (hf : 0 ≤ f) (hd : 0 ≤ d) (hn' : n < q64) (hf' : f < q64) (hd' : d < q64) (h : ¬ n * f + d < q64) :
    ∃ v : Int, ∀ w, Calls Tryz.prog 88 #[.int .u64 n, .int .u64 f, .int .u64 d] w fun e w' => e = .returned (.tuple #[.int .u64 v, .bool false]) ∧ w = w' := by
  obtain ⟨n, rfl⟩ := Int.eq_ofNat_of_zero_le hn
  obtain ⟨f, rfl⟩ := Int.eq_ofNat_of_zero_le hf
  obtain ⟨d, rfl⟩ := Int.eq_ofNat_of_zero_le hd
  rw [q64_p64] at *
  have h' : ¬ n * f + d < p64 := by exact_mod_cast h
  refine ⟨((n * f % p64 + d) % p64 : Nat), fun w => ?_⟩
  refine (more_c n f d (by omega) (by omega) (by omega) w).mono ?_
  rintro e w' ⟨rfl, rfl⟩
  rw [decide_eq_false h']
  exact ⟨rfl, rfl⟩
end Go.Proofs.YtkaeceedofmhbaaGreatDoor
