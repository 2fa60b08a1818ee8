/-
  scan: integer, the whole.
-/
import Derived.Test.YtkaeceedofmhbaaGreatDoorGSc9
namespace Go.Proofs.YtkaeceedofmhbaaGreatDoor
open Go.RowKit Bk

section
variable {X : Nat → Prop} {c : Nat} {sv : Value} {s : Bytes} {p b : Nat} {t : Tok}

theorem integer_hex {s : Bytes} {p : Nat} (hl : p + 1 < s.length) (h0 : s[p] = 48) (h1 : s[p + 1] = 120) : integer (s.drop p) = hexEnd (digits true 0 2 (s.drop (p + 2))) := by
  rw [drop_cons (show p < s.length by omega), drop_cons hl, h0, h1]; rfl
theorem integer_dec {s : Bytes} {p : Nat} (hl : p < s.length) (h : ¬ (s[p] = 48 ∧ ∃ h : p + 1 < s.length, s[p + 1] = 120)) : integer (s.drop p) = decEnd (digits false 0 0 (s.drop p)) := by
  rw [drop_cons hl]
  by_cases h1 : p + 1 < s.length
  · rw [drop_cons h1]
    unfold integer
    split
    · rename_i r heq
      simp only [List.cons.injEq] at heq
      exact absurd ⟨heq.1, h1, heq.2.1⟩ h
    · rfl
  · rw [List.drop_eq_nil_of_le (show s.length ≤ p + 1 by omega)]
    unfold integer
    split
    · rename_i r heq; simp at heq
    · rfl

set_option maxRecDepth 100000 in
set_option maxHeartbeats 8000000 in
theorem integer_c (w : World) (h : CT X w c sv s p b t) (hl : p < s.length) :
    Calls Tryz.prog 59 #[.pointer (some ⟨c, 0, none⟩), .pointer (some ⟨b, 0, none⟩)] w (IntPost X c sv s p b t w (integer (s.drop p))) := by
  have HC := Lib.hid h
  have hlen := h.cur.slen
  obtain ⟨bb, off, cap, hsv, hx, hc1, hc2, hbs⟩ := h.cur.shows hl
  have c0 := h.cur.c0
  have c1 := h.cur.c1
  have cf := h.cur.free 1
  have cb := hbs p hl
  rw [hsv] at c0
  have hp0 : (0 : Int) ≤ (p : Int) := Int.natCast_nonneg _
  have hp1 : (p : Int) < (s.length : Int) := by omega
  have hpp : ((p : Int) + 1).toNat = p + 1 := by omega
  have hpw : IntKind.i64.wrap ((p : Int) + 1) = (p : Int) + 1 := IntWalk.i64_in _ ⟨by omega, by omega⟩
  obtain ⟨T, hT⟩ : ∃ T, T = integer (s.drop p) := ⟨_, rfl⟩
  rw [← hT]
  have HT := Lib.hid hT
  have HSV := Lib.hid hsv
  have HB := Lib.hid hbs
  clear hT h hsv hx hc1 hc2 hbs
  have fin : Hid (∀ (n : Nat), (∀ (m l : Nat) (a : Act) (w' : World), m < n → intJ X c sv s p b t w T l m a w' → Goes Tryz.prog intBody (intJ X c sv s p b t w T) (bodyPost Tryz.prog Tryz.f59 (IntPost X c sv s p b t w T)) n l a w') →
      ∀ (l : Nat) (a : Act) (w' : World), intJ X c sv s p b t w T l n a w' → Goes Tryz.prog intBody (intJ X c sv s p b t w T) (bodyPost Tryz.prog Tryz.f59 (IntPost X c sv s p b t w T)) n l a w') := fun n ih l a w' hJ => by
    rcases hJ with ⟨rfl, hJ⟩ | ⟨rfl, hJ⟩ | ⟨rfl, hJ⟩
    · exact int_hex n a w' hJ ih
    · exact int_dec n a w' hJ
    · exact int_suf n a w' hJ
  by_cases h0 : s[p] = 48
  · by_cases hl1 : p + 1 < s.length
    · have cb1 := HB.out (p + 1) hl1
      have hd1 : decide ((p : Int) + 1 < (s.length : Int)) = true := by simp; omega
      have hp2 : (p : Int) + 1 < (s.length : Int) := by omega
      have hp3 : (0 : Int) ≤ (p : Int) + 1 := by omega
      rw [h0] at cb
      by_cases h1 : s[p + 1] = 120
      · rw [h1] at cb1
        have HTT := Lib.hid (show T = hexEnd (digits true 0 2 (s.drop (p + 2))) by rw [HT.out, integer_hex hl1 h0 h1])
        clear h0 h1
        go_enter Tryz.func59, Tryz.ntmps59
        go_wp2_with fail
        refine wp_scope_labels (intJ X c sv s p b t w T) (s.length + 5) fin.out (fun hgo => ?_)
        have HG := Lib.hid hgo
        clear hgo
        go_wp2_with fail
        go_quiet (fail)
        go_wp2_with fail
        go_quiet (fail)
        go_wp2_with fail
        go_step3
        exact ⟨s.length + 1, by omega, .inl ⟨rfl, p + 2, 0, intJ0_mk _ rfl, by omega, by exact (HC.out.drewN _).step2 (by omega), by exact ((Fr.refl X w).drewN _).setCell HC.out.cur.xc _, by decide, by decide, by omega, by omega, by rw [show p + 2 - p = 2 from by omega]; exact HTT.out⟩⟩
      · have e1 : ((s[p + 1].toNat : Int) == 120) = false := by
          rw [beq_eq_false_iff_ne]; intro e; exact h1 (UInt8.toNat_inj.1 (by show s[p + 1].toNat = 120; omega))
        have HTT := Lib.hid (show T = decEnd (digits false 0 0 (s.drop p)) by rw [HT.out, integer_dec hl (fun ⟨_, _, h⟩ => h1 h)])
        generalize s[p + 1].toNat = ch at cb1 e1
        clear h0 h1
        go_enter Tryz.func59, Tryz.ntmps59
        go_wp2_with fail
        refine wp_scope_labels (intJ X c sv s p b t w T) (s.length + 5) fin.out (fun hgo => ?_)
        have HG := Lib.hid hgo
        clear hgo
        go_wp2_with fail
        go_quiet (fail)
        go_wp2_with fail
        go_quiet (fail)
        go_wp2_with fail
        go_step3
        go_step
        go_step
        refine Goes.use (HG.out (s.length + 1) 1 _ _ (by omega) ?_) rfl
        exact .inr (.inl ⟨rfl, p, 0, intJ1_mk _ rfl, Nat.le_refl _, by exact (HC.out.drewN _).drewN _, by exact ((Fr.refl X w).drewN _).drewN _, by decide, by decide, by omega, by rw [Nat.sub_self]; exact HTT.out⟩)
    · have hd1 : decide ((p : Int) + 1 < (s.length : Int)) = false := by simp; omega
      have HTT := Lib.hid (show T = decEnd (digits false 0 0 (s.drop p)) by rw [HT.out, integer_dec hl (fun ⟨_, h, _⟩ => hl1 h)])
      rw [h0] at cb
      clear h0
      go_enter Tryz.func59, Tryz.ntmps59
      go_wp2_with fail
      refine wp_scope_labels (intJ X c sv s p b t w T) (s.length + 5) fin.out (fun hgo => ?_)
      have HG := Lib.hid hgo
      clear hgo
      go_wp2_with fail
      go_quiet (fail)
      go_wp2_with fail
      go_quiet (fail)
      go_wp2_with fail
      go_step3
      go_step
      go_step
      refine Goes.use (HG.out (s.length + 1) 1 _ _ (by omega) ?_) rfl
      exact .inr (.inl ⟨rfl, p, 0, intJ1_mk _ rfl, Nat.le_refl _, by exact (HC.out.drewN _).drewN _, by exact ((Fr.refl X w).drewN _).drewN _, by decide, by decide, by omega, by rw [Nat.sub_self]; exact HTT.out⟩)
  · have e0 : ((s[p].toNat : Int) == 48) = false := by
      rw [beq_eq_false_iff_ne]; intro e; exact h0 (UInt8.toNat_inj.1 (by show s[p].toNat = 48; omega))
    have HTT := Lib.hid (show T = decEnd (digits false 0 0 (s.drop p)) by rw [HT.out, integer_dec hl (fun ⟨h, _⟩ => h0 h)])
    generalize s[p].toNat = ch at cb e0
    clear h0
    go_enter Tryz.func59, Tryz.ntmps59
    go_wp2_with fail
    refine wp_scope_labels (intJ X c sv s p b t w T) (s.length + 5) fin.out (fun hgo => ?_)
    have HG := Lib.hid hgo
    clear hgo
    go_wp2_with fail
    go_quiet (fail)
    go_wp2_with fail
    go_quiet (fail)
    go_wp2_with fail
    go_step3
    go_step
    go_step
    refine Goes.use (HG.out (s.length + 1) 1 _ _ (by omega) ?_) rfl
    exact .inr (.inl ⟨rfl, p, 0, intJ1_mk _ rfl, Nat.le_refl _, by exact (HC.out.drewN _).drewN _, by exact ((Fr.refl X w).drewN _).drewN _, by decide, by decide, by omega, by rw [Nat.sub_self]; exact HTT.out⟩)
end
end Go.Proofs.YtkaeceedofmhbaaGreatDoor
