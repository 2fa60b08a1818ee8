/-
  syntax: see.
  syntax: take, must, open, shut: over what next and fail do. Made by gen/sy2.py.
  syntax: word.
-/
import Derived.Test.YtkaeceedofmhbaaGreatDoorGGrow
import Derived.OwnWalk
import Derived.Handy
import Derived.Lib.Hide
import Derived.WalkLawsBesides
import Derived.Deep.RegionHeld3
namespace Go.Proofs.YtkaeceedofmhbaaGreatDoor
open Go.RowKit Bk
variable {X : Nat → Prop} {H : Frozen} {r : Nat} {sv : Value} {src : Bytes} {st : St}

theorem info3 : (Tryz.prog.info? 3).map (fun i => (i.zero, i.size, i.bytes)) = some (some (.int .i64 0), 1, 8) := by kernel_rfl

theorem see_yes (w : World) (kind : Int) (h : RdOK X H w r sv src st) (hk : st.tok.kind = kind) :
    Calls Tryz.prog 48 #[.pointer (some ⟨r, 0, none⟩), .int .i64 kind] w fun e w' => e = .returned (.bool true) ∧ w = w' := by
  obtain ⟨v, ic, nc, h⟩ := h
  have c3 : w.cell? ⟨r, 3, none⟩ = some (.int .i64 st.tok.kind) := cell_of_blk h.blk 3
  have hb : (st.tok.kind == kind) = true := by simp [hk]
  clear h hk
  go_enter Tryz.func48, Tryz.ntmps48
  go_wp2
  go_ret
  exact ⟨rfl, rfl⟩
set_option maxRecDepth 100000 in
theorem see_no (w : World) (kind : Int) (h : RdOK X H w r sv src st) (hk : ¬ st.tok.kind = kind) (hl : st.want.length < most) :
    Calls Tryz.prog 48 #[.pointer (some ⟨r, 0, none⟩), .int .i64 kind] w fun e w' => e = .returned (.bool false) ∧ RdOK X H w' r sv src { st with want := st.want ++ [kind] } ∧ Fr X w w' := by
  obtain ⟨v, ic, nc, h⟩ := h
  have c3 : w.cell? ⟨r, 3, none⟩ = some (.int .i64 st.tok.kind) := cell_of_blk h.blk 3
  have c9 : w.cell? ⟨r, 9, none⟩ = some v.wv := cell_of_blk h.blk 9
  have hb : (st.tok.kind == kind) = false := by simp [hk]
  have hown := h.want
  obtain ⟨i0, hi, hz0, hz1, hz2⟩ := info_parts info3
  have HH := Lib.hid h
  clear h hk
  go_enter Tryz.func48, Tryz.ntmps48
  go_wp2_with (at_builtin; refine wpList_append_own_at _ rfl (.tmp 16) (.tmp 18) 22 rfl 0 3 i0 (.int .i64 0) 1 8 Tryz.underlying22 hi hz0 hz1 hz2 rfl (by decide) _ _ _ rfl (hown.alloc _) ⟨w.heap.size, 0, none⟩ 1 1 [.int .i64 kind] rfl rfl (cell_one_new _ _ _) ?c2 ?c3 ?c4 ?c5 ?_)
  case c2 => intro u hu; simp at hu; subst hu; rfl
  case c3 => unfold maxLen; unfold most at hl; omega
  case c4 => unfold most at hl; omega
  case c5 => simp
  intro v' w1 hown1 hgrow1 _ hat1
  obtain ⟨g, cap, rfl⟩ := own_shows hown1 (by omega)
  have hr1 := grown_block hgrow1 HH.out.lt HH.out.r_ne_w
  have d9 := (World.cell?_of_block (a := ⟨r, 9, none⟩) hr1).trans c9
  have e9 := (World.frozen?_of_block (a := ⟨r, 9, none⟩) hr1).trans (free_of_blk HH.out.blk 9)
  have fin := Lib.hid (HH.out.want_append hgrow1 hown1 hat1)
  clear hown1 hgrow1 hat1 hr1 hown c3 hl
  go_wp2
  go_ret
  exact ⟨rfl, ⟨_, _, _, fin.out.1⟩, fin.out.2⟩

theorem see_c (w : World) (kind : Int) (h : RdOK X H w r sv src st) (hf : see kind st ≠ .bad .fuel) :
    Calls Tryz.prog 48 #[.pointer (some ⟨r, 0, none⟩), .int .i64 kind] w (Post X w (see kind st) fun b st' v w' => v = .bool b ∧ RdOK X H w' r sv src st') := by
  by_cases hk : st.tok.kind = kind
  · refine (see_yes w kind h hk).mono ?_
    rintro e w' ⟨rfl, rfl⟩
    exact Post.ok (by simp [see, hk]) ⟨rfl, h⟩ (Fr.refl _ _)
  · have hl : st.want.length < most := by
      refine Decidable.byContradiction fun hn => hf ?_
      simp [see, hk, hn]
    refine (see_no w kind h hk hl).mono ?_
    rintro e w' ⟨rfl, h1, h2⟩
    exact Post.ok (by simp [see, hk, hl]) ⟨rfl, h1⟩ h2
end Go.Proofs.YtkaeceedofmhbaaGreatDoor
namespace Go.Proofs.YtkaeceedofmhbaaGreatDoor
open Go.RowKit Bk

/-- What next does. -/
def NextC : Prop := ∀ (X : Nat → Prop) (H : Frozen) (r : Nat) (sv : Value) (src : Bytes) (st : St) (w : World), RdOK X H w r sv src st →
  Calls Tryz.prog 24 #[.pointer (some ⟨r, 0, none⟩)] w (Post X w (next src st) (Good rU X H r sv src))
/-- What fail does. -/
def FailC : Prop := ∀ (X : Nat → Prop) (H : Frozen) (r : Nat) (sv : Value) (src : Bytes) (st : St) (w : World), RdOK X H w r sv src st →
  Calls Tryz.prog 29 #[.pointer (some ⟨r, 0, none⟩)] w (fun e w' => e = .panicked [{ v := haltV (st.at_ + failAt src st) 60, recovered := false }] ∧ Fr X w w')

section
variable {X : Nat → Prop} {H : Frozen} {r : Nat} {sv : Value} {src : Bytes} {st : St} {w : World}

/-- A call that ends in a post is walked on from its two endings. -/
theorem Post.elimG {α : Type} {R : Frozen → α → Value → Prop} {w' : World} {res : Res α} {e : Ending} (h : Post X w res (Good R X H r sv src) e w') :
    (∃ a st1 v H1, res = .ok a st1 ∧ e = .returned v ∧ Le H H1 ∧ RdOK X H1 w' r sv src st1 ∧ R H1 a v ∧ Fr X w w') ∨ (∃ p why, res = .bad (.stop p why) ∧ e = .panicked [{ v := haltV p why, recovered := false }] ∧ Fr X w w') := by
  rcases h.elim with ⟨a, st1, v, h1, h2, ⟨H1, h3, h4, h5⟩, h6⟩ | h
  · exact .inl ⟨a, st1, v, H1, h1, h2, h3, h4, h5, h6⟩
  · exact .inr h

theorem see_g (kind : Int) (h : RdOK X H w r sv src st) (hf : see kind st ≠ .bad .fuel) :
    Calls Tryz.prog 48 #[.pointer (some ⟨r, 0, none⟩), .int .i64 kind] w (Post X w (see kind st) (Good rB X H r sv src)) :=
  (see_c w kind h hf).mono fun e w' hp => by
    rcases hp.elim with ⟨a, st1, v, h1, rfl, ⟨h2, h3⟩, h4⟩ | ⟨p, why, h1, rfl, h2⟩
    · exact Post.ok h1 ⟨H, Le.refl H, h3, h2⟩ h4
    · exact Post.stop h1 h2

set_option maxRecDepth 100000 in
theorem take_c (nx : Hid NextC) (kind : Int) (h : RdOK X H w r sv src st) (hf : take src kind st ≠ .bad .fuel) :
    Calls Tryz.prog 46 #[.pointer (some ⟨r, 0, none⟩), .int .i64 kind] w (Post X w (take src kind st) (Good rB X H r sv src)) := by
  have FU0 := Lib.hid hf
  have RD0 := Lib.hid h
  have FR0 := Lib.hid (Fr.refl X w)
  have LE0 := Lib.hid (Le.refl H)
  clear h hf
  obtain ⟨T, hT⟩ : ∃ T, T = take src kind st := ⟨_, rfl⟩
  rw [← hT]
  have EQ0 := Lib.hid hT
  clear hT
  go_enter Tryz.func46, Tryz.ntmps46
  go_wp2_with fail
  refine (see_g kind RD0.out (fuel_l FU0.out)).mono ?_
  intro e w1 hp
  rcases hp.elimG with ⟨b, st1, v1, H1, hr, rfl, le, hR, hv, hfr⟩ | ⟨p, why, hr, rfl, hfr⟩
  rotate_left
  · have FRp := Lib.hid (FR0.out.trans hfr)
    have EQp := Lib.hid (EQ0.out.trans (bind_bad hr))
    clear hfr hr hp
    go_wp2_with fail
    exact ⟨rfl, Post.stop EQp.out FRp.out⟩
  obtain rfl : v1 = .bool b := hv
  have RD1 := Lib.hid hR
  have FR1 := Lib.hid (FR0.out.trans hfr)
  have LE1 := Lib.hid (LE0.out.trans le)
  have EQ1 := Lib.hid (EQ0.out.trans (bind_ok hr))
  have FU1 := Lib.hid (fuel_r FU0.out hr)
  clear hfr hr hp hR le
  cases b with
  | false =>
    go_wp2_with fail
    go_ret
    exact Post.ok EQ1.out ⟨H1, LE1.out, RD1.out, rfl⟩ FR1.out
  | true =>
    go_wp2_with fail
    refine (nx.out _ _ _ _ _ _ _ RD1.out).mono ?_
    intro e w2 hp
    rcases hp.elimG with ⟨b, st2, v2, H2, hr, rfl, le, hR, hv, hfr⟩ | ⟨p, why, hr, rfl, hfr⟩
    rotate_left
    · have FRp := Lib.hid (FR1.out.trans hfr)
      have EQp := Lib.hid (EQ1.out.trans (bind_bad hr))
      clear hfr hr hp
      go_wp2_with fail
      exact ⟨rfl, Post.stop EQp.out FRp.out⟩
    obtain rfl : v2 = .tuple #[] := hv
    have RD2 := Lib.hid hR
    have FR2 := Lib.hid (FR1.out.trans hfr)
    have LE2 := Lib.hid (LE1.out.trans le)
    have EQ2 := Lib.hid (EQ1.out.trans (bind_ok hr))
    clear hfr hr hp hR le
    go_wp2_with fail
    go_ret
    exact Post.ok EQ2.out ⟨H2, LE2.out, RD2.out, rfl⟩ FR2.out
set_option maxRecDepth 100000 in
theorem must_c (nx : Hid NextC) (fl : Hid FailC) (kind : Int) (h : RdOK X H w r sv src st) (hf : must src kind st ≠ .bad .fuel) :
    Calls Tryz.prog 25 #[.pointer (some ⟨r, 0, none⟩), .int .i64 kind] w (Post X w (must src kind st) (Good rU X H r sv src)) := by
  have FU0 := Lib.hid hf
  have RD0 := Lib.hid h
  have FR0 := Lib.hid (Fr.refl X w)
  have LE0 := Lib.hid (Le.refl H)
  clear h hf
  obtain ⟨T, hT⟩ : ∃ T, T = must src kind st := ⟨_, rfl⟩
  rw [← hT]
  have EQ0 := Lib.hid hT
  clear hT
  go_enter Tryz.func25, Tryz.ntmps25
  go_wp2_with fail
  refine (take_c nx kind RD0.out (fuel_l FU0.out)).mono ?_
  intro e w1 hp
  rcases hp.elimG with ⟨b, st1, v1, H1, hr, rfl, le, hR, hv, hfr⟩ | ⟨p, why, hr, rfl, hfr⟩
  rotate_left
  · have FRp := Lib.hid (FR0.out.trans hfr)
    have EQp := Lib.hid (EQ0.out.trans (bind_bad hr))
    clear hfr hr hp
    go_wp2_with fail
    exact ⟨rfl, Post.stop EQp.out FRp.out⟩
  obtain rfl : v1 = .bool b := hv
  have RD1 := Lib.hid hR
  have FR1 := Lib.hid (FR0.out.trans hfr)
  have LE1 := Lib.hid (LE0.out.trans le)
  have EQ1 := Lib.hid (EQ0.out.trans (bind_ok hr))
  clear hfr hr hp hR le
  cases b with
  | true =>
    go_wp2_with fail
    go_end0
    exact Post.ok EQ1.out ⟨H1, LE1.out, RD1.out, rfl⟩ FR1.out
  | false =>
    go_wp2_with fail
    refine (fl.out _ _ _ _ _ _ _ RD1.out).mono ?_
    rintro e wp ⟨rfl, hfr⟩
    have FRp := Lib.hid (FR1.out.trans hfr)
    clear hfr
    go_wp2_with fail
    exact ⟨rfl, Post.stop EQ1.out FRp.out⟩
set_option maxRecDepth 100000 in
theorem open_c (nx : Hid NextC) (fl : Hid FailC) (kind : Int) (h : RdOK X H w r sv src st) (hf : open_ src kind st ≠ .bad .fuel) :
    Calls Tryz.prog 47 #[.pointer (some ⟨r, 0, none⟩), .int .i64 kind] w (Post X w (open_ src kind st) (Good rU X H r sv src)) := by
  have FU0 := Lib.hid hf
  have RD0 := Lib.hid h
  have FR0 := Lib.hid (Fr.refl X w)
  have LE0 := Lib.hid (Le.refl H)
  clear h hf
  obtain ⟨T, hT⟩ : ∃ T, T = open_ src kind st := ⟨_, rfl⟩
  rw [← hT]
  have EQ0 := Lib.hid hT
  clear hT
  go_enter Tryz.func47, Tryz.ntmps47
  go_wp2_with fail
  refine (see_g kind RD0.out (fuel_l FU0.out)).mono ?_
  intro e w1 hp
  rcases hp.elimG with ⟨b, st1, v1, H1, hr, rfl, le, hR, hv, hfr⟩ | ⟨p, why, hr, rfl, hfr⟩
  rotate_left
  · have FRp := Lib.hid (FR0.out.trans hfr)
    have EQp := Lib.hid (EQ0.out.trans (bind_bad hr))
    clear hfr hr hp
    go_wp2_with fail
    exact ⟨rfl, Post.stop EQp.out FRp.out⟩
  obtain rfl : v1 = .bool b := hv
  have RD1 := Lib.hid hR
  have FR1 := Lib.hid (FR0.out.trans hfr)
  have LE1 := Lib.hid (LE0.out.trans le)
  have EQ1 := Lib.hid (EQ0.out.trans (bind_ok hr))
  clear hfr hr hp hR le
  have c1 := RD1.out.c1
  have c12 := RD1.out.c12
  have f12 := RD1.out.free 12
  have ho := RD1.out.openl
  cases b with
  | false =>
    clear c1 c12 f12 ho
    go_wp2_with fail
    refine (fl.out _ _ _ _ _ _ _ RD1.out).mono ?_
    rintro e wp ⟨rfl, hfr⟩
    have FRp := Lib.hid (FR1.out.trans hfr)
    clear hfr
    go_wp2_with fail
    exact ⟨rfl, Post.stop EQ1.out FRp.out⟩
  | true =>
    by_cases h32 : st1.opened = 32
    · have hb : ((st1.opened : Int) == 32) = true := by rw [beq_iff_eq]; omega
      have EQ2 := Lib.hid (EQ1.out.trans (if_pos h32))
      clear h32
      go_wp2_with fail
      exact ⟨rfl, Post.stop EQ2.out FR1.out⟩
    · have hb : ((st1.opened : Int) == 32) = false := by rw [beq_eq_false_iff_ne]; omega
      have e1 : IntKind.i64.wrap ((st1.opened : Int) + 1) = (st1.opened : Int) + 1 := IntWalk.i64_in _ ⟨by omega, by omega⟩
      have hput := RD1.out.put (st' := { st1 with opened := st1.opened + 1 }) 12 (.int .i64 ((st1.opened : Int) + 1)) (fun v => by simp [rdCells]) rfl rfl rfl rfl RD1.out.ato RD1.out.tol RD1.out.badl (by show st1.opened + 1 ≤ 32; omega)
      have RD2 := Lib.hid hput.1
      have FR2 := Lib.hid (FR1.out.trans hput.2)
      have LE2 := LE1
      have EQ2 := Lib.hid (EQ1.out.trans (if_neg h32))
      clear h32 hput
      go_wp2_with fail
      refine (nx.out _ _ _ _ _ _ _ RD2.out).mono ?_
      intro e w3 hp
      rcases hp.elimG with ⟨b, st3, v3, H3, hr, rfl, le, hR, hv, hfr⟩ | ⟨p, why, hr, rfl, hfr⟩
      · obtain rfl : v3 = .tuple #[] := hv
        have FR3 := Lib.hid (FR2.out.trans hfr)
        have RD3 := Lib.hid hR
        have LE3 := Lib.hid (LE2.out.trans le)
        have EQ3 := Lib.hid (EQ2.out.trans hr)
        clear hfr hR le hr hp
        go_wp2_with fail
        go_end0
        exact Post.ok EQ3.out ⟨H3, LE3.out, RD3.out, rfl⟩ FR3.out
      · have FR3 := Lib.hid (FR2.out.trans hfr)
        have EQ3 := Lib.hid (EQ2.out.trans hr)
        clear hfr hr hp
        go_wp2_with fail
        exact ⟨rfl, Post.stop EQ3.out FR3.out⟩
set_option maxRecDepth 100000 in
theorem shut_c (nx : Hid NextC) (fl : Hid FailC) (kind : Int) (h : RdOK X H w r sv src st) (hf : shut src kind st ≠ .bad .fuel) :
    Calls Tryz.prog 49 #[.pointer (some ⟨r, 0, none⟩), .int .i64 kind] w (Post X w (shut src kind st) (Good rU X H r sv src)) := by
  have FU0 := Lib.hid hf
  have RD0 := Lib.hid h
  have FR0 := Lib.hid (Fr.refl X w)
  have LE0 := Lib.hid (Le.refl H)
  clear h hf
  obtain ⟨T, hT⟩ : ∃ T, T = shut src kind st := ⟨_, rfl⟩
  rw [← hT]
  have EQ0 := Lib.hid hT
  clear hT
  go_enter Tryz.func49, Tryz.ntmps49
  go_wp2_with fail
  refine (must_c nx fl kind RD0.out (fuel_l FU0.out)).mono ?_
  intro e w1 hp
  rcases hp.elimG with ⟨b, st1, v1, H1, hr, rfl, le, hR, hv, hfr⟩ | ⟨p, why, hr, rfl, hfr⟩
  rotate_left
  · have FRp := Lib.hid (FR0.out.trans hfr)
    have EQp := Lib.hid (EQ0.out.trans (bind_bad hr))
    clear hfr hr hp
    go_wp2_with fail
    exact ⟨rfl, Post.stop EQp.out FRp.out⟩
  obtain rfl : v1 = .tuple #[] := hv
  have RD1 := Lib.hid hR
  have FR1 := Lib.hid (FR0.out.trans hfr)
  have LE1 := Lib.hid (LE0.out.trans le)
  have EQ1 := Lib.hid (EQ0.out.trans (bind_ok hr))
  have FU1 := Lib.hid (fuel_r FU0.out hr)
  clear hfr hr hp hR le
  have ho : st1.opened ≠ 0 := fun e => FU1.out (if_pos e)
  have h32 := RD1.out.openl
  have c12 := RD1.out.c12
  have f12 := RD1.out.free 12
  have e1 : IntKind.i64.wrap ((st1.opened : Int) - 1) = (st1.opened : Int) - 1 := IntWalk.i64_in _ ⟨by omega, by omega⟩
  have hput := RD1.out.put (st' := { st1 with opened := st1.opened - 1 }) 12 (.int .i64 ((st1.opened : Int) - 1)) (fun v => by simp [rdCells]; omega) rfl rfl rfl rfl RD1.out.ato RD1.out.tol RD1.out.badl (by show st1.opened - 1 ≤ 32; omega)
  have RD2 := Lib.hid hput.1
  have FR2 := Lib.hid (FR1.out.trans hput.2)
  have EQ2 := Lib.hid (EQ1.out.trans (if_neg ho))
  clear ho h32 hput
  go_wp2_with fail
  go_end0
  exact Post.ok EQ2.out ⟨H1, LE1.out, RD2.out, rfl⟩ FR2.out
end
end Go.Proofs.YtkaeceedofmhbaaGreatDoor
namespace Go.Proofs.YtkaeceedofmhbaaGreatDoor
open Go.RowKit Bk

/-- X, and the blocks from a on, below b. -/
def Fence (X : Nat → Prop) (a b : Nat) : Nat → Prop := fun k => X k ∨ (a ≤ k ∧ k < b)

section
variable {X : Nat → Prop} {H : Frozen} {r : Nat} {sv : Value} {src : Bytes} {st : St} {w w1 : World}
theorem RdOK.fence (h : RdOK X H w r sv src st) (hb : Below w.heap.size w w1) : RdOK (Fence X w.heap.size w1.heap.size) H w1 r sv src st :=
  h.local h.txt h.gx (fun _ h => h) (fun k hk _ => hb.block k hk) (fun _ h => .inl h) (fun _ h => h.imp id (·.1)) (fun k hk => by
    rcases hk with h1 | h1
    · exact Nat.lt_of_lt_of_le (h.xlt k h1) hb.size
    · exact h1.2)
/-- The fence, grown. -/
theorem RdOK.fenceOn {H' : Frozen} {st' : St} {a : Nat} (h : RdOK (Fence X a w.heap.size) H w r sv src st) (h0 : RdOK X H' w r sv src st') (hb : Below w.heap.size w w1) : RdOK (Fence X a w1.heap.size) H w1 r sv src st :=
  h.local h0.txt h0.gx (fun _ h => .inl h) (fun k hk _ => hb.block k hk) (fun _ h => .inl h) (fun k hk => by
    rcases hk with h1 | h1
    · exact .inl (.inl h1)
    · rcases Nat.lt_or_ge k w.heap.size with h2 | h2
      · exact .inl (.inr ⟨h1.1, h2⟩)
      · exact .inr h2) (fun k hk => by
    rcases hk with h1 | h1
    · exact Nat.lt_of_lt_of_le (h0.xlt k h1) hb.size
    · exact h1.2)
theorem RdOK.leave {H' : Frozen} {st' : St} {a b : Nat} {w2 : World} (h : RdOK (Fence X a b) H w1 r sv src st) (h0 : RdOK X H' w r sv src st') (hf : Fr X w w1) (hb : ∀ k, k < w1.heap.size → (X k ∨ ¬ (a ≤ k ∧ k < b)) → w2.heap[k]? = w1.heap[k]?) (hs : w1.heap.size ≤ w2.heap.size) : RdOK X H w2 r sv src st :=
  h.local (h0.txt.keep hf.block) h0.gx (fun _ h => .inl h) (fun k hk h => hb k hk (by
    rcases h with h | h
    · exact .inl h
    · exact .inr fun h' => h (.inr h'))) (fun _ h => h) (fun k hk => .inl (.inl hk)) (fun k hk => Nat.lt_of_lt_of_le (h.xlt k (.inl hk)) hs)
theorem Fr.unfence {a b : Nat} {w2 : World} (h : Fr (Fence X a b) w1 w2) : Fr X w1 w2 := h.mono fun _ h => .inl h
/-- Out of the fence. -/
theorem RdOK.unfence {H' : Frozen} {st' : St} {a b : Nat} (h : RdOK (Fence X a b) H w1 r sv src st) (h0 : RdOK X H' w r sv src st') (hf : Fr X w w1) : RdOK X H w1 r sv src st :=
  h.back (h0.txt.keep hf.block) h0.gx fun _ h => .inl h
theorem Fr.fcell {a b k : Nat} (h : Fr (Fence X a b) w w1) (h1 : a ≤ k) (h2 : k < b) (i : Nat) : w1.cell? ⟨k, i, none⟩ = w.cell? ⟨k, i, none⟩ := h.cell (p := ⟨k, i, none⟩) (.inr ⟨h1, h2⟩)
theorem Fr.ffree {a b k : Nat} (h : Fr (Fence X a b) w w1) (h1 : a ≤ k) (h2 : k < b) (i : Nat) : w1.frozen? ⟨k, i, none⟩ = w.frozen? ⟨k, i, none⟩ := h.frozen (p := ⟨k, i, none⟩) (.inr ⟨h1, h2⟩)

set_option maxRecDepth 100000 in
theorem rword_c (nx : Hid NextC) (fl : Hid FailC) (h : RdOK X H w r sv src st) :
    Calls Tryz.prog 26 #[.pointer (some ⟨r, 0, none⟩)] w (Post X w (word src st) (Good rRef X H r sv src)) := by
  obtain ⟨T, hT⟩ : ∃ T, T = word src st := ⟨_, rfl⟩
  rw [← hT]
  -- the result's own block
  obtain ⟨o1, ho1⟩ : ∃ o1 : Obj, o1 = .cells #[.string ⟨#[]⟩, .int .i64 0, .slice none 0 0] 24 := ⟨_, rfl⟩
  have hlt := h.lt
  have hput := h.put (st' := { st with name := true }) 10 (.bool true) (fun v => by simp [rdCells]) rfl rfl rfl rfl h.ato h.tol h.badl h.openl
  obtain ⟨W0, hW0⟩ : ∃ W0, W0 = w.setCell ⟨r, 10, none⟩ (.bool true) := ⟨_, rfl⟩
  have hs0 : W0.heap.size = w.heap.size := by rw [hW0]; simp [World.setCell]
  rw [← hW0] at hput
  have hbel : Below W0.heap.size W0 (W0.alloc o1) := (Below.refl _ _).alloc (Nat.le_refl _) o1
  have RD1 := Lib.hid (hput.1.fence hbel)
  have FR1 := Lib.hid (hput.2.alloc hput.1.xlt o1)
  have RDX := Lib.hid (hput.1.alloc o1)
  have HXL := Lib.hid hput.1.xlt
  have EQ0 := Lib.hid hT
  have f10 := h.free 10
  have c10 := h.c10
  have c3 := h.c3
  clear h hT hbel hput
  obtain ⟨st1, hst1⟩ : ∃ st1 : St, st1 = { st with name := true } := ⟨_, rfl⟩
  rw [← hst1] at RD1 RDX
  have HS0 := Lib.hid hs0
  have HW0 := Lib.hid hW0
  have HO1 := Lib.hid ho1
  have HST := Lib.hid hst1
  clear hs0 hW0 ho1 hst1
  by_cases hk : st.tok.kind = 1
  · have hb : (st.tok.kind != 1) = false := by simp [hk]
    have EQ1 := Lib.hid (EQ0.out.trans (if_pos hk))
    rw [← HST.out] at EQ1
    clear hk
    go_enter Tryz.func26, Tryz.ntmps26
    go_wp2_with fail
    rw [← HW0.out, ← HO1.out, ← HS0.out]
    obtain ⟨W, hW⟩ : ∃ W, W = W0.alloc o1 := ⟨_, rfl⟩
    have hB : W0.heap.size < W.heap.size := by rw [hW]; simp
    have hblk : W.heap[W0.heap.size]? = some o1 := by rw [hW]; exact heap_alloc_new W0 o1
    rw [← hW] at RD1 FR1 RDX ⊢
    have e1 := RDX.out.c1
    have e5 := RDX.out.c5
    obtain ⟨B, hB'⟩ : ∃ B, B = W0.heap.size := ⟨_, rfl⟩
    rw [← hB'] at hB hblk RD1 ⊢
    have hXB : ¬ X B := fun hx => absurd (HXL.out B hx) (by rw [hB']; exact Nat.lt_irrefl _)
    clear hB' hW c3 c10 f10 hlt
    go_region_held3 (fun w' => w'.cell? ⟨r, 1, none⟩ = some (.int .i64 st1.at_) ∧ w'.cell? ⟨r, 5, none⟩ = some (str st1.tok.s)) (go_keep) (fail)
    go_wp2_with fail
    obtain ⟨o2, ho2⟩ : ∃ o2 : Obj, o2 = .cells #[str st1.tok.s, .int .i64 st1.at_, .slice none 0 0] 24 := ⟨_, rfl⟩
    rw [← ho2]
    obtain ⟨W2, hW2⟩ : ∃ W2, W2 = (W.alloc o2).drew := ⟨_, rfl⟩
    rw [← hW2]
    have hs2 : W2.heap.size = W.heap.size + 1 := by rw [hW2]; simp
    have hbel : Below W.heap.size W W2 := by rw [hW2]; exact ((Below.refl _ _).alloc (Nat.le_refl _) o2).drew
    have hblk2 : W2.heap[W.heap.size]? = some o2 := by rw [hW2]; exact heap_alloc_new W o2
    have hblk1 : W2.heap[B]? = some o1 := (hbel.block B hB).trans hblk
    have RD2 := Lib.hid (RD1.out.fenceOn RDX.out hbel)
    have FR2 := Lib.hid (FR1.out.trans ⟨hbel.os, hbel.tape, hbel.output, hbel.size, fun k hk => hbel.block k (RDX.out.xlt k hk)⟩)
    have RDY := Lib.hid (RDX.out.local (w1 := W2) (Y := X) RDX.out.txt RDX.out.gx (fun _ h => h) (fun k hk _ => hbel.block k hk) (fun _ h => h) (fun k hk => .inl hk) (fun k hk => Nat.lt_of_lt_of_le (RDX.out.xlt k hk) hbel.size))
    clear hW2 hbel hblk e1 e5
    obtain ⟨b, hb'⟩ : ∃ b, b = W.heap.size := ⟨_, rfl⟩
    rw [← hb'] at hs2 hblk2 hB ⊢
    clear hb'
    refine (nx.out _ _ _ _ _ _ _ RD2.out).mono ?_
    intro e w3 hp
    rcases hp.elimG with ⟨a, st3, v3, H3, hr, rfl, le, hR, hv, hfr⟩ | ⟨p, why, hr, rfl, hfr⟩
    · obtain rfl : v3 = .tuple #[] := hv
      have g1 : w3.heap[B]? = some o1 := (hfr.block B (.inr ⟨Nat.le_refl _, by omega⟩)).trans hblk1
      have g2 : w3.heap[b]? = some o2 := (hfr.block b (.inr ⟨by omega, by omega⟩)).trans hblk2
      rw [HO1.out] at g1
      rw [ho2] at g2
      have d0 : w3.cell? ⟨b, 0, none⟩ = some (str st1.tok.s) := cell_of_blk (cs := [str st1.tok.s, .int .i64 st1.at_, .slice none 0 0]) g2 0
      have d1 : w3.cell? ⟨b, 1, none⟩ = some (.int .i64 st1.at_) := cell_of_blk (cs := [str st1.tok.s, .int .i64 st1.at_, .slice none 0 0]) g2 1
      have d2 : w3.cell? ⟨b, 2, none⟩ = some (.slice none 0 0) := cell_of_blk (cs := [str st1.tok.s, .int .i64 st1.at_, .slice none 0 0]) g2 2
      have b0 : w3.cell? ⟨B, 0, none⟩ = some (.string ⟨#[]⟩) := cell_of_blk (cs := [.string ⟨#[]⟩, .int .i64 0, .slice none 0 0]) g1 0
      have b1 : w3.cell? ⟨B, 1, none⟩ = some (.int .i64 0) := cell_of_blk (cs := [.string ⟨#[]⟩, .int .i64 0, .slice none 0 0]) g1 1
      have b2 : w3.cell? ⟨B, 2, none⟩ = some (.slice none 0 0) := cell_of_blk (cs := [.string ⟨#[]⟩, .int .i64 0, .slice none 0 0]) g1 2
      have q0 := free_of_blk g1 0
      have q1 := free_of_blk g1 1
      have q2 := free_of_blk g1 2
      have FR3 := Lib.hid (FR2.out.trans hfr.unfence)
      have RD3 := Lib.hid hR
      have LE3 := Lib.hid le
      have EQ3 := Lib.hid (EQ1.out.trans (bind_ok hr))
      have hfx := Lib.hid hfr.unfence
      clear hfr hR le hr hp g1 g2 ho2 hblk2 hblk1
      have hend : Post X w T (Good rRef X H r sv src) (.returned (.agg #[str st1.tok.s, .int .i64 st1.at_, .slice none 0 0])) (((w3.setCell ⟨B, 0, none⟩ (.string ⟨st1.tok.s.toArray⟩)).setCell ⟨B, 1, none⟩ (.int .i64 st1.at_)).setCell ⟨B, 2, none⟩ (.slice none 0 0)) := by
        have same : ∀ k, k ≠ B → (((w3.setCell ⟨B, 0, none⟩ (.string ⟨st1.tok.s.toArray⟩)).setCell ⟨B, 1, none⟩ (.int .i64 st1.at_)).setCell ⟨B, 2, none⟩ (.slice none 0 0)).heap[k]? = w3.heap[k]? := fun k hk => by
          rw [Below.heap_setCell _ _ _ _ hk, Below.heap_setCell _ _ _ _ hk, Below.heap_setCell _ _ _ _ hk]
        refine Post.ok EQ3.out ⟨H3, LE3.out, RD3.out.leave (w := W2) (st' := st1) (H' := H) ?_ ?_ (fun k _ h => same k ?_) (by simp [World.setCell]), ⟨_, rfl, .inl ⟨rfl, rfl, rfl⟩⟩⟩ (((FR3.out.setCell (p := ⟨B, 0, none⟩) hXB _).setCell (p := ⟨B, 1, none⟩) hXB _).setCell (p := ⟨B, 2, none⟩) hXB _)
        · exact RDY.out
        · exact hfx.out
        · rintro rfl
          rcases h with h | h
          · exact hXB h
          · exact h ⟨Nat.le_refl _, by omega⟩
      have HEND := Lib.hid hend
      clear hend
      go_wp2_with fail
      exact bodyPost_ret (v := .agg #[str st1.tok.s, .int .i64 st1.at_, .slice none 0 0]) (by simp [results, Tryz.results26, go_sem, b0, b1, b2]) rfl HEND.out
    · have FR3 := Lib.hid (FR2.out.trans hfr.unfence)
      have EQ3 := Lib.hid (EQ1.out.trans (bind_bad hr))
      clear hfr hr hp ho2 hblk2 hblk1 hs2
      go_wp2_with fail
      exact ⟨rfl, Post.stop EQ3.out FR3.out⟩
  · have hb : (st.tok.kind != 1) = true := by simp [hk]
    have EQ1 := Lib.hid (EQ0.out.trans (if_neg hk))
    clear hk
    go_enter Tryz.func26, Tryz.ntmps26
    go_wp2_with fail
    rw [← HW0.out, ← HO1.out]
    refine (fl.out _ _ _ _ _ _ _ RDX.out).mono ?_
    rw [HST.out]
    rintro e wp ⟨rfl, hfr⟩
    have FRp := Lib.hid (FR1.out.trans hfr)
    clear hfr
    go_wp2_with fail
    exact ⟨rfl, Post.stop EQ1.out FRp.out⟩
end
end Go.Proofs.YtkaeceedofmhbaaGreatDoor
