/-
  syntax: expr, over what atom does and what it does itself with less.
  syntax: atom, over what expr does with less; both, whole.
-/
import Derived.Test.YtkaeceedofmhbaaGreatDoorGSy12
import Derived.Test.YtkaeceedofmhbaaGreatDoorGSy9
import Derived.Test.YtkaeceedofmhbaaGreatDoorGSy6
import Derived.Deep.LoopGhost
import Derived.Defers
import Derived.StillTailTactics
namespace Go.Proofs.YtkaeceedofmhbaaGreatDoor
open Go.RowKit Bk

def ExprC (n : Nat) : Prop := ∀ (X : Nat → Prop) (H : Frozen) (r : Nat) (sv : Value) (src : Bytes) (st : St) (w : World) (above : Int), RdOK X H w r sv src st → expr src n above st ≠ .bad .fuel →
  Calls Tryz.prog 110 #[.pointer (some ⟨r, 0, none⟩), .int .i64 above] w (Post X w (expr src n above st) (Good rI X H r sv src))
def AtomC (n : Nat) : Prop := ∀ (X : Nat → Prop) (H : Frozen) (r : Nat) (sv : Value) (src : Bytes) (st : St) (w : World), RdOK X H w r sv src st → atom src n st ≠ .bad .fuel →
  Calls Tryz.prog 147 #[.pointer (some ⟨r, 0, none⟩)] w (Post X w (atom src n st) (Good rI X H r sv src))

section
variable {X : Nat → Prop} {H : Frozen} {r : Nat} {sv : Value} {src : Bytes} {st : St} {w w1 : World}

/-- A row that is made and never written again. -/
theorem RdOK.made (h : RdOK X H w r sv src st) (l : List Int) (hl : 0 < l.length) (hm : l.length ≤ maxLen) :
    RdOK X (H.put w.heap.size 3 (ints l)) (w.alloc (.cells (ints l).toArray 3)) r sv src st ∧ Le H (H.put w.heap.size 3 (ints l)) ∧
    FInts (H.put w.heap.size 3 (ints l)) (.slice (some ⟨w.heap.size, 0, none⟩) l.length l.length) l ∧ Fr X w (w.alloc (.cells (ints l).toArray 3)) := by
  have hb : Below w.heap.size w (w.alloc (.cells (ints l).toArray 3)) := (Below.refl _ _).alloc (Nat.le_refl _) _
  have hf := h.fence hb
  have fr : Fr X w (w.alloc (.cells (ints l).toArray 3)) := (Fr.refl X w).alloc h.xlt _
  have hng : ¬ X w.heap.size := fun hx => by have := h.xlt _ hx; omega
  have hz := hf.freeze (h.txt.keep fr.block) h.gx (fun _ hk => .inl hk) (g := w.heap.size) (.inr ⟨Nat.le_refl _, by simp⟩) hng (t := 3) (cur := (ints l).toArray) (cs := ints l) (heap_alloc_new w _) (by simp)
  refine ⟨hz.1, hz.2, .inr ⟨_, _, rfl, hl, Nat.le_refl _, hm, Frozen.put_self _ _ _ _⟩, fr⟩

/-- What an expression goes on with, behind what it asks for. -/
def onward (src : Bytes) (m : Nat) (above a top : Int) : Unit → M Int := fun _ st =>
  if rank st.tok.kind ≤ above ∨ rank st.tok.kind ≥ top then .ok a st
  else (next src >>= fun _ => expr src m (rank st.tok.kind) >>= fun b => node { op := st.tok.kind, kids := [a, b], at_ := st.at_ } >>= fun a' => exprOn src m above a' (if rank st.tok.kind = 1 then 1 else top)) st
theorem exprOn_on (m : Nat) (above a top : Int) (st : St) : exprOn src (m + 1) above a top st = (asks above top 16 14 >>= onward src m above a top) st := by rw [exprOn]; rfl
theorem asks_end (above top k : Int) {α : Type} (f : Unit → M α) (st : St) : (asks above top 0 k >>= f) st = f () st := rfl
theorem bind_assoc_st {α β γ : Type} {m : M α} {g : α → M β} {f : β → M γ} {st : St} : ((m >>= g) >>= f) st = (m >>= fun a => g a >>= f) st := by
  show M.bind (M.bind m g) f st = M.bind m (fun a => M.bind (g a) f) st
  simp only [M.bind]
  cases m st <;> rfl
theorem asks_see {above top k : Int} (h1 : rank k > above) (h2 : rank k < top) {α : Type} {n : Nat} (f : Unit → M α) (st : St) : (asks above top (n + 1) k >>= f) st = (see k >>= fun _ => asks above top n (k + 1) >>= f) st := by
  rw [asks, if_pos ⟨h1, h2⟩]
  exact bind_assoc_st
theorem asks_not {above top k : Int} (h : ¬ (rank k > above ∧ rank k < top)) {α : Type} {n : Nat} (f : Unit → M α) (st : St) : (asks above top (n + 1) k >>= f) st = (asks above top n (k + 1) >>= f) st := by
  rw [asks, if_neg h]

set_option maxRecDepth 100000 in
set_option maxHeartbeats 4000000 in
theorem expr_step (n : Nat) (ihE : ∀ m, m < n → ExprC m) (ihA : ∀ m, m < n → AtomC m) : ExprC n := fun X H r sv src st w above h hf => by
  cases n with
  | zero => exact absurd rfl hf
  | succ n =>
  obtain ⟨T, hT⟩ : ∃ T, T = expr src (n + 1) above st := ⟨_, rfl⟩
  rw [← hT]
  have hT2 : T = (atom src n >>= fun a => exprOn src n above a 8) st := by rw [hT, expr]
  have FU := Lib.hid (show T ≠ .bad .fuel by rw [hT]; exact hf)
  have EQ0 := Lib.hid hT2
  have HAT := Lib.hid (ihA n (by omega) X H r sv src st w h (fun e => FU.out (by rw [hT2]; exact bind_bad e)))
  have HE := Lib.hid (fun m (hm : m < n) => ihE m (by omega))
  clear h hf hT hT2 ihE ihA
  go_enter Tryz.func110, Tryz.ntmps110
  go_wp2_with fail
  refine HAT.out.mono ?_
  intro e w1 hp
  rcases hp.elimG with ⟨a1, st1, v1, H1, hr, rfl, le, hR, hv, hfr⟩ | ⟨p, why, hr, rfl, hfr⟩
  rotate_left
  · have EQp := Lib.hid (EQ0.out.trans (bind_bad hr))
    have FRp := Lib.hid hfr
    clear hfr hr hp
    go_wp2_with fail
    exact ⟨rfl, Post.stop EQp.out FRp.out⟩
  obtain rfl : v1 = .int .i64 a1 := hv
  have RD1 := Lib.hid hR
  have FR1 := Lib.hid hfr
  have LE1 := Lib.hid le
  have EQ1 := Lib.hid (EQ0.out.trans (bind_ok hr))
  clear hfr hr hp hR le
  go_wp2_with fail
  go_loopg [5, 6] (n + 1) (fun g s5 s6 wr => ∃ (m : Nat) (a top : Int) (stk : St) (Hk : Frozen), m ≤ n ∧ m < g ∧ s5 = .int .i64 a ∧ s6 = .int .i64 top ∧ Hid (RdOK X Hk wr r sv src stk ∧ Fr X w wr ∧ Le H Hk ∧ T = exprOn src m above a top stk))
  case atStart => exact ⟨n, a1, 8, st1, H1, Nat.le_refl _, by omega, rfl, rfl, Lib.hid ⟨RD1.out, FR1.out, LE1.out, EQ1.out⟩⟩
  case round =>
    obtain ⟨m, a, top, stk, Hk, hmn, hmg, rfl, rfl, hrel⟩ := hrel
    obtain ⟨hR, hF, hL, hE⟩ := hrel.out
    cases m with
    | zero => exact absurd hE FU.out
    | succ m =>
    rw [exprOn_on] at hE
    have RDK := Lib.hid hR
    have FRK := Lib.hid hF
    have LEK := Lib.hid hL
    have EQK := Lib.hid hE
    have HEM := Lib.hid (HE.out m (by omega))
    clear hrel hR hF hL hE
    obtain ⟨wo, rfl⟩ : ∃ wo : World, wo = wr := ⟨_, rfl⟩
    obtain ⟨go, rfl⟩ : ∃ go : Nat, go = gk := ⟨_, rfl⟩
    go_wp2_with fail
    go_loopg [7] 17 (fun g s7 wr => ∃ (k : Int) (stj : St) (Hj : Frozen), 14 ≤ k ∧ k ≤ 30 ∧ (30 - k).toNat < g ∧ s7 = .int .i64 k ∧ Hid (RdOK X Hj wr r sv src stj ∧ Fr X w wr ∧ Le H Hj ∧ T = (asks above top (30 - k).toNat k >>= onward src m above a top) stj))
    case atStart => exact ⟨14, stk, Hk, by omega, by omega, by omega, rfl, Lib.hid ⟨RDK.out, FRK.out, LEK.out, EQK.out⟩⟩
    case round =>
      obtain ⟨k, stj, Hj, hk1, hk2, hkg, rfl, hrel⟩ := hrel
      obtain ⟨hR, hF, hL, hE⟩ := hrel.out
      have RDJ := Lib.hid hR
      have FRJ := Lib.hid hF
      have LEJ := Lib.hid hL
      have EQJ := Lib.hid hE
      have HRK := Lib.hid (fun V => rank_c k V)
      clear hrel hR hF hL hE
      by_cases hk : k ≤ 29
      · have e1 : IntKind.i64.wrap (k + 1) = k + 1 := IntWalk.i64_in _ ⟨by omega, by omega⟩
        have hkn : (30 - k).toNat = (30 - (k + 1)).toNat + 1 := by omega
        rw [hkn] at EQJ
        have hm2 : (30 - (k + 1)).toNat < gk - 1 := by omega
        have hk3 : k + 1 ≤ 30 := by omega
        obtain ⟨rk, hrk⟩ : ∃ rk, rk = rank k := ⟨_, rfl⟩
        rw [← hrk] at HRK
        have HRE := Lib.hid hrk
        clear hkn hrk
        by_cases h1 : rk > above
        · have b1 : decide (rk > above) = true := by simpa using h1
          by_cases h2 : rk < top
          · have b2 : decide (rk < top) = true := by simpa using h2
            have EQS := Lib.hid (EQJ.out.trans (asks_see (by rw [← HRE.out]; exact h1) (by rw [← HRE.out]; exact h2) _ _))
            clear h1 h2
            go_wp2_with fail
            refine (HRK.out _).mono ?_
            rintro e w2 ⟨rfl, rfl⟩
            go_wp2_with fail
            refine (HRK.out _).mono ?_
            rintro e w2 ⟨rfl, rfl⟩
            go_wp2_with fail
            refine (see_g k RDJ.out (fun e => FU.out (EQS.out.trans (bind_bad e)))).mono ?_
            intro e w2 hp
            rcases hp.elimG with ⟨b, st2, v2, H2, hr, rfl, le, hR, hv, hfr⟩ | ⟨p, why, hr, rfl, hfr⟩
            rotate_left
            · have EQp := Lib.hid (EQS.out.trans (bind_bad hr))
              have FRp := Lib.hid (FRJ.out.trans hfr)
              clear hfr hr hp
              go_wp2_with fail
              exact ⟨rfl, Post.stop EQp.out FRp.out⟩
            have HFIN := Lib.hid (And.intro hR (And.intro (FRJ.out.trans hfr) (And.intro (LEJ.out.trans le) (EQS.out.trans (bind_ok hr)))))
            clear hR hfr le hr hp
            go_wp2_with fail
            go_roundg (gk - 1)
            case measure => omega
            case rel => exact ⟨k + 1, st2, H2, by omega, hk3, hm2, rfl, HFIN⟩
          · have b2 : decide (rk < top) = false := by simpa using h2
            have EQS := Lib.hid (EQJ.out.trans (asks_not (by rw [← HRE.out]; exact fun h => h2 h.2) _ _))
            clear h1 h2
            go_wp2_with fail
            refine (HRK.out _).mono ?_
            rintro e w2 ⟨rfl, rfl⟩
            go_wp2_with fail
            refine (HRK.out _).mono ?_
            rintro e w2 ⟨rfl, rfl⟩
            go_wp2_with fail
            go_roundg (gk - 1)
            case measure => omega
            case rel => exact ⟨k + 1, stj, Hj, by omega, hk3, hm2, rfl, Lib.hid ⟨RDJ.out, FRJ.out, LEJ.out, EQS.out⟩⟩
        · have b1 : decide (rk > above) = false := by simpa using h1
          have EQS := Lib.hid (EQJ.out.trans (asks_not (by rw [← HRE.out]; exact fun h => h1 h.1) _ _))
          clear h1
          go_wp2_with fail
          refine (HRK.out _).mono ?_
          rintro e w2 ⟨rfl, rfl⟩
          go_wp2_with fail
          go_roundg (gk - 1)
          case measure => omega
          case rel => exact ⟨k + 1, stj, Hj, by omega, hk3, hm2, rfl, Lib.hid ⟨RDJ.out, FRJ.out, LEJ.out, EQS.out⟩⟩
      · obtain rfl : k = 30 := by omega
        have EQS := Lib.hid (EQJ.out.trans (asks_end above top 30 _ _))
        have c3 := RDJ.out.c3
        have c1 := RDJ.out.c1
        clear hk HRK
        obtain ⟨q, hq⟩ : ∃ q, q = stj.tok.kind := ⟨_, rfl⟩
        obtain ⟨rk, hrk⟩ : ∃ rk, rk = rank q := ⟨_, rfl⟩
        have HRK := Lib.hid (fun V => rank_c q V)
        rw [← hrk] at HRK
        rw [← hq] at c3
        have HQ := Lib.hid hq
        have HRE := Lib.hid hrk
        have EQT := Lib.hid (show T = (if rk ≤ above ∨ rk ≥ top then .ok a stj else (next src >>= fun _ => expr src m rk >>= fun b => node { op := q, kids := [a, b], at_ := stj.at_ } >>= fun a' => exprOn src m above a' (if rk = 1 then 1 else top)) stj) by rw [EQS.out, hrk, hq]; rfl)
        clear hq hrk
        by_cases h1 : rk ≤ above
        · have b1 : decide (rk ≤ above) = true := by simpa using h1
          have EQF := Lib.hid (EQT.out.trans (if_pos (.inl h1)))
          clear h1
          go_wp2_with fail
          refine (HRK.out _).mono ?_
          rintro e w2 ⟨rfl, rfl⟩
          go_wp2_with fail
          go_ret
          exact Post.ok EQF.out ⟨Hj, LEJ.out, RDJ.out, rfl⟩ FRJ.out
        by_cases h2 : rk ≥ top
        · have b1 : decide (rk ≤ above) = false := by simpa using h1
          have b2 : decide (rk ≥ top) = true := by simpa using h2
          have EQF := Lib.hid (EQT.out.trans (if_pos (.inr h2)))
          clear h1 h2
          go_wp2_with fail
          refine (HRK.out _).mono ?_
          rintro e w2 ⟨rfl, rfl⟩
          go_wp2_with fail
          refine (HRK.out _).mono ?_
          rintro e w2 ⟨rfl, rfl⟩
          go_wp2_with fail
          go_ret
          exact Post.ok EQF.out ⟨Hj, LEJ.out, RDJ.out, rfl⟩ FRJ.out
        have b1 : decide (rk ≤ above) = false := by simpa using h1
        have b2 : decide (rk ≥ top) = false := by simpa using h2
        have EQF := Lib.hid (EQT.out.trans (if_neg (fun h => h.elim h1 h2)))
        clear h1 h2 EQT EQS
        go_wp2_with fail
        refine (HRK.out _).mono ?_
        rintro e w2 ⟨rfl, rfl⟩
        go_wp2_with fail
        refine (HRK.out _).mono ?_
        rintro e w2 ⟨rfl, rfl⟩
        go_wp2_with fail
        refine (next_c _ _ _ _ _ _ _ RDJ.out).mono ?_
        intro e w2 hp
        rcases hp.elimG with ⟨b, st2, v2, H2, hr, rfl, le, hR, hv, hfr⟩ | ⟨p, why, hr, rfl, hfr⟩
        rotate_left
        · have EQp := Lib.hid (EQF.out.trans (bind_bad hr))
          have FRp := Lib.hid (FRJ.out.trans hfr)
          clear hfr hr hp
          go_wp2_with fail
          exact ⟨rfl, Post.stop EQp.out FRp.out⟩
        obtain rfl : v2 = .tuple #[] := hv
        have RD2 := Lib.hid hR
        have FR2 := Lib.hid (FRJ.out.trans hfr)
        have LE2 := Lib.hid (LEJ.out.trans le)
        have EQ2 := Lib.hid (EQF.out.trans (bind_ok hr))
        clear hR hfr le hr hp
        go_wp2_with fail
        refine (HRK.out _).mono ?_
        rintro e w3 ⟨rfl, rfl⟩
        go_wp2_with fail
        refine (HEM.out _ _ _ _ _ _ _ rk RD2.out (fun e => FU.out (EQ2.out.trans (bind_bad e)))).mono ?_
        intro e w3 hp
        rcases hp.elimG with ⟨b3, st3, v3, H3, hr, rfl, le, hR, hv, hfr⟩ | ⟨p, why, hr, rfl, hfr⟩
        rotate_left
        · have EQp := Lib.hid (EQ2.out.trans (bind_bad hr))
          have FRp := Lib.hid (FR2.out.trans hfr)
          clear hfr hr hp
          go_wp2_with fail
          exact ⟨rfl, Post.stop EQp.out FRp.out⟩
        obtain rfl : v3 = .int .i64 b3 := hv
        have EQ3 := Lib.hid (EQ2.out.trans (bind_ok hr))
        have hmade := hR.made [a, b3] (by simp) (by simp [maxLen])
        obtain ⟨hR4, hL4, hI4, hF4⟩ := hmade
        have RD4 := Lib.hid hR4
        have FR4 := Lib.hid ((FR2.out.trans hfr).trans hF4)
        have LE4 := Lib.hid ((LE2.out.trans le).trans hL4)
        have HI4 := Lib.hid hI4
        clear hR hfr le hr hp hR4 hL4 hI4 hF4
        go_wp2_with fail
        refine (node_c { op := q, kids := [a, b3], at_ := (stj.at_ : Int) } (.slice (some ⟨w3.heap.size, 0, none⟩) 2 2) HI4.out RD4.out (fun e => FU.out (EQ3.out.trans (bind_bad e)))).mono ?_
        intro e w5 hp
        rcases hp.elimG with ⟨a5, st5, v5, H5, hr, rfl, le, hR, hv, hfr⟩ | ⟨p, why, hr, rfl, hfr⟩
        rotate_left
        · have EQp := Lib.hid (EQ3.out.trans (bind_bad hr))
          have FRp := Lib.hid (FR4.out.trans hfr)
          clear hfr hr hp
          go_wp2_with fail
          exact ⟨rfl, Post.stop EQp.out FRp.out⟩
        obtain rfl : v5 = .int .i64 a5 := hv
        have HFIN := Lib.hid (And.intro hR (And.intro (FR4.out.trans hfr) (And.intro (LE4.out.trans le) (EQ3.out.trans (bind_ok hr)))))
        clear hR hfr le hr hp
        by_cases hr1 : rk = 1
        · have b3 : (rk == 1) = true := by rw [beq_iff_eq]; exact hr1
          have HF2 := HFIN.out
          rw [if_pos hr1] at HF2
          have HF3 := Lib.hid HF2
          clear hr1 HF2
          go_wp2_with fail
          refine (HRK.out _).mono ?_
          rintro e w6 ⟨rfl, rfl⟩
          go_wp2_with fail
          go_roundg (m + 1)
          case measure => omega
          case rel => exact ⟨m, a5, 1, st5, H5, by omega, by omega, rfl, rfl, HF3⟩
        · have b3 : (rk == 1) = false := by rw [beq_eq_false_iff_ne]; exact hr1
          have HF2 := HFIN.out
          rw [if_neg hr1] at HF2
          have HF3 := Lib.hid HF2
          clear hr1 HF2
          go_wp2_with fail
          refine (HRK.out _).mono ?_
          rintro e w6 ⟨rfl, rfl⟩
          go_wp2_with fail
          go_roundg (m + 1)
          case measure => omega
          case rel => exact ⟨m, a5, top, st5, H5, by omega, by omega, rfl, rfl, HF3⟩
end
end Go.Proofs.YtkaeceedofmhbaaGreatDoor
namespace Go.Proofs.YtkaeceedofmhbaaGreatDoor
open Go.RowKit Bk

section
variable {X : Nat → Prop} {H : Frozen} {r : Nat} {sv : Value} {src : Bytes} {st : St} {w w1 : World}

/-- Behind the bracket that may stand here. -/
def atomOn (src : Bytes) (n : Nat) : Bool → M Int := fun b =>
  if b then (open_ src 8 >>= fun _ => expr src n 0 >>= fun k => shut src 9 >>= fun _ => (pure k : M Int))
  else fun st =>
    if st.tok.kind = 2 then (node { op := 2, n := st.tok.n, at_ := st.at_ } >>= fun k => next src >>= fun _ => (pure k : M Int)) st
    else if st.tok.kind = 1 then (node { op := 1, s := st.tok.s, at_ := st.at_ } >>= fun k => next src >>= fun _ => (pure k : M Int)) st
    else fail src st
theorem atom_on (n : Nat) (st : St) : atom src (n + 1) st = (see 8 >>= atomOn src n) { st with num := true, name := true } := by rw [atom]; rfl

theorem node_nostop (x : NodeV) (st : St) (p : Nat) (why : Int) : node x st ≠ .bad (.stop p why) := by
  unfold node
  split <;> simp

set_option maxRecDepth 100000 in
set_option maxHeartbeats 4000000 in
theorem atom_step (n : Nat) (ihE : ∀ m, m < n → ExprC m) : AtomC n := fun X H r sv src st w h hf => by
  cases n with
  | zero => exact absurd rfl hf
  | succ n =>
  obtain ⟨T, hT⟩ : ∃ T, T = atom src (n + 1) st := ⟨_, rfl⟩
  rw [← hT]
  have FU := Lib.hid (show T ≠ .bad .fuel by rw [hT]; exact hf)
  rw [atom_on] at hT
  have hp1 := h.put (st' := { st with num := true }) 11 (.bool true) (fun v => by simp [rdCells]) rfl rfl rfl rfl h.ato h.tol h.badl h.openl
  have hp2 := hp1.1.put (st' := { st with num := true, name := true }) 10 (.bool true) (fun v => by simp [rdCells]) rfl rfl rfl rfl h.ato h.tol h.badl h.openl
  obtain ⟨st0, hst0⟩ : ∃ st0 : St, st0 = { st with num := true, name := true } := ⟨_, rfl⟩
  rw [← hst0] at hT hp2
  have RD0 := Lib.hid hp2.1
  have FR0 := Lib.hid (hp1.2.trans hp2.2)
  have EQ0 := Lib.hid hT
  have HE := Lib.hid (ihE n (by omega))
  have NX := Lib.hid next_c
  have FL := Lib.hid fail_c
  have c10 := h.c10
  have c11 := h.c11
  have f10 := h.free 10
  have f11 := h.free 11
  clear h hf hT hp1 hp2 ihE hst0
  go_enter_defers Tryz.func147, Tryz.ntmps147
  go_wp2_with fail
  refine (see_g 8 RD0.out (fun e => FU.out (EQ0.out.trans (bind_bad e)))).mono ?_
  intro e w1 hp
  rcases hp.elimG with ⟨b, st1, v1, H1, hr, rfl, le, hR, hv, hfr⟩ | ⟨p, why, hr, rfl, hfr⟩
  rotate_left
  · have EQp := Lib.hid (EQ0.out.trans (bind_bad hr))
    have FRp := Lib.hid (FR0.out.trans hfr)
    clear hfr hr hp
    go_wp2_with fail
    exact Post.stop EQp.out FRp.out
  obtain rfl : v1 = .bool b := hv
  have RD1 := Lib.hid hR
  have FR1 := Lib.hid (FR0.out.trans hfr)
  have LE1 := Lib.hid le
  have EQ1 := Lib.hid (EQ0.out.trans (bind_ok hr))
  clear hfr hr hp hR le
  cases b with
  | true =>
    go_wp2_with fail
    refine (open_c NX FL 8 RD1.out (fun e => FU.out (EQ1.out.trans (bind_bad e)))).mono ?_
    intro e w2 hp
    rcases hp.elimG with ⟨a2, st2, v2, H2, hr, rfl, le, hR, hv, hfr⟩ | ⟨p, why, hr, rfl, hfr⟩
    rotate_left
    · have EQp := Lib.hid (EQ1.out.trans (bind_bad hr))
      have FRp := Lib.hid (FR1.out.trans hfr)
      clear hfr hr hp
      go_wp2_with fail
      exact Post.stop EQp.out FRp.out
    obtain rfl : v2 = .tuple #[] := hv
    have RD2 := Lib.hid hR
    have FR2 := Lib.hid (FR1.out.trans hfr)
    have LE2 := Lib.hid (LE1.out.trans le)
    have EQ2 := Lib.hid (EQ1.out.trans (bind_ok hr))
    clear hfr hr hp hR le
    go_wp2_with fail
    refine (HE.out _ _ _ _ _ _ _ 0 RD2.out (fun e => FU.out (EQ2.out.trans (bind_bad e)))).mono ?_
    intro e w3 hp
    rcases hp.elimG with ⟨a3, st3, v3, H3, hr, rfl, le, hR, hv, hfr⟩ | ⟨p, why, hr, rfl, hfr⟩
    rotate_left
    · have EQp := Lib.hid (EQ2.out.trans (bind_bad hr))
      have FRp := Lib.hid (FR2.out.trans hfr)
      clear hfr hr hp
      go_wp2_with fail
      exact Post.stop EQp.out FRp.out
    obtain rfl : v3 = .int .i64 a3 := hv
    have RD3 := Lib.hid hR
    have FR3 := Lib.hid (FR2.out.trans hfr)
    have LE3 := Lib.hid (LE2.out.trans le)
    have EQ3 := Lib.hid (EQ2.out.trans (bind_ok hr))
    clear hfr hr hp hR le
    go_wp2_with fail
    refine (shut_c NX FL 9 RD3.out (fun e => FU.out (EQ3.out.trans (bind_bad e)))).mono ?_
    intro e w4 hp
    rcases hp.elimG with ⟨a4, st4, v4, H4, hr, rfl, le, hR, hv, hfr⟩ | ⟨p, why, hr, rfl, hfr⟩
    rotate_left
    · have EQp := Lib.hid (EQ3.out.trans (bind_bad hr))
      have FRp := Lib.hid (FR3.out.trans hfr)
      clear hfr hr hp
      go_wp2_with fail
      exact Post.stop EQp.out FRp.out
    obtain rfl : v4 = .tuple #[] := hv
    have RD4 := Lib.hid hR
    have FR4 := Lib.hid (FR3.out.trans hfr)
    have LE4 := Lib.hid (LE3.out.trans le)
    have EQ4 := Lib.hid (EQ3.out.trans (bind_ok hr))
    clear hfr hr hp hR le
    go_wp2_with fail
    refine ⟨_, results_tmp rfl _ _ _, ?_⟩
    exact Post.ok EQ4.out ⟨H4, LE4.out, RD4.out, rfl⟩ FR4.out
  | false =>
    have c3 := RD1.out.c3
    have EQF := Lib.hid (show T = (if st1.tok.kind = 2 then (node { op := 2, n := st1.tok.n, at_ := st1.at_ } >>= fun k => next src >>= fun _ => (pure k : M Int)) st1
      else if st1.tok.kind = 1 then (node { op := 1, s := st1.tok.s, at_ := st1.at_ } >>= fun k => next src >>= fun _ => (pure k : M Int)) st1
      else fail src st1) from EQ1.out)
    by_cases h2 : st1.tok.kind = 2
    · have b2 : (st1.tok.kind == 2) = true := by rw [beq_iff_eq]; exact h2
      have EQ2 := Lib.hid (EQF.out.trans (if_pos h2))
      have c1 := RD1.out.c1
      have c4 := RD1.out.c4
      have HND := Lib.hid (fun V (hV : RdOK X H1 V r sv src st1) => node_c { op := 2, n := st1.tok.n, at_ := (st1.at_ : Int) } (.slice none 0 0) (.inl ⟨rfl, rfl, rfl⟩) hV (fun e => FU.out (EQ2.out.trans (bind_bad e))))
      clear h2
      go_wp2_with fail
      go_still_tail 11, (by kernel_rfl)
      change wpList _ _ _ _ _ w1.drew
      go_wp2_with fail
      refine (HND.out _ RD1.out.drew).mono ?_
      intro e w2 hp
      rcases hp.elimG with ⟨a2, st2, v2, H2, hr, rfl, le, hR, hv, hfr⟩ | ⟨p, why, hr, rfl, hfr⟩
      rotate_left
      · exact absurd hr (node_nostop _ _ _ _)
      obtain rfl : v2 = .int .i64 a2 := hv
      have RD2 := Lib.hid hR
      have FR2 := Lib.hid (FR1.out.trans (Fr.trans (b := w1.drew) ⟨rfl, rfl, rfl, Nat.le_refl _, fun _ _ => rfl⟩ hfr))
      have LE2 := Lib.hid (LE1.out.trans le)
      have EQ3 := Lib.hid (EQ2.out.trans (bind_ok hr))
      clear hfr hr hp hR le
      go_wp2_with fail
      refine leaves_cons (f := 24) (args := #[.pointer (some ⟨r, 0, none⟩)]) (by simp) (by simp [go_sem]) ?_
      refine (next_both _ _ _ _ _ _ _ .returning RD2.out).2.mono ?_
      rintro e u' w3 ⟨rfl, hp⟩
      rcases hp.elimG with ⟨a3, st3, v3, H3, hr, rfl, le, hR, hv, hfr⟩ | ⟨p, why, hr, rfl, hfr⟩
      · refine ⟨_, results_tmp rfl _ _ _, ?_⟩
        exact Post.ok (EQ3.out.trans (bind_ok hr)) ⟨H3, LE2.out.trans le, hR, rfl⟩ (FR2.out.trans hfr)
      · exact Post.stop (EQ3.out.trans (bind_bad hr)) (FR2.out.trans hfr)
    · by_cases h1 : st1.tok.kind = 1
      · have b2 : (st1.tok.kind == 2) = false := by rw [beq_eq_false_iff_ne]; exact h2
        have b1 : (st1.tok.kind == 1) = true := by rw [beq_iff_eq]; exact h1
        have EQ2 := Lib.hid (EQF.out.trans ((if_neg h2).trans (if_pos h1)))
        have c1 := RD1.out.c1
        have c5 := RD1.out.c5
        have HND := Lib.hid (fun V (hV : RdOK X H1 V r sv src st1) => node_c { op := 1, s := st1.tok.s, at_ := (st1.at_ : Int) } (.slice none 0 0) (.inl ⟨rfl, rfl, rfl⟩) hV (fun e => FU.out (EQ2.out.trans (bind_bad e))))
        clear h1 h2
        go_wp2_with fail
        go_still_tail 11, (by kernel_rfl)
        change wpList _ _ _ _ _ w1.drew
        go_wp2_with fail
        refine (HND.out _ RD1.out.drew).mono ?_
        intro e w2 hp
        rcases hp.elimG with ⟨a2, st2, v2, H2, hr, rfl, le, hR, hv, hfr⟩ | ⟨p, why, hr, rfl, hfr⟩
        rotate_left
        · exact absurd hr (node_nostop _ _ _ _)
        obtain rfl : v2 = .int .i64 a2 := hv
        have RD2 := Lib.hid hR
        have FR2 := Lib.hid (FR1.out.trans (Fr.trans (b := w1.drew) ⟨rfl, rfl, rfl, Nat.le_refl _, fun _ _ => rfl⟩ hfr))
        have LE2 := Lib.hid (LE1.out.trans le)
        have EQ3 := Lib.hid (EQ2.out.trans (bind_ok hr))
        clear hfr hr hp hR le
        go_wp2_with fail
        refine leaves_cons (f := 24) (args := #[.pointer (some ⟨r, 0, none⟩)]) (by simp) (by simp [go_sem]) ?_
        refine (next_both _ _ _ _ _ _ _ .returning RD2.out).2.mono ?_
        rintro e u' w3 ⟨rfl, hp⟩
        rcases hp.elimG with ⟨a3, st3, v3, H3, hr, rfl, le, hR, hv, hfr⟩ | ⟨p, why, hr, rfl, hfr⟩
        · refine ⟨_, results_tmp rfl _ _ _, ?_⟩
          exact Post.ok (EQ3.out.trans (bind_ok hr)) ⟨H3, LE2.out.trans le, hR, rfl⟩ (FR2.out.trans hfr)
        · exact Post.stop (EQ3.out.trans (bind_bad hr)) (FR2.out.trans hfr)
      · have b2 : (st1.tok.kind == 2) = false := by rw [beq_eq_false_iff_ne]; exact h2
        have b1 : (st1.tok.kind == 1) = false := by rw [beq_eq_false_iff_ne]; exact h1
        have EQ2 := Lib.hid (EQF.out.trans ((if_neg h2).trans (if_neg h1)))
        clear h1 h2
        go_wp2_with fail
        refine (FL.out _ _ _ _ _ _ _ RD1.out).mono ?_
        rintro e wp ⟨rfl, hfr⟩
        have FRp := Lib.hid (FR1.out.trans hfr)
        clear hfr
        go_wp2_with fail
        exact Post.stop EQ2.out FRp.out

theorem expr_atom (n : Nat) : ExprC n ∧ AtomC n := by
  induction n using Nat.strongRecOn with
  | _ n ih => exact ⟨expr_step n (fun m hm => (ih m hm).1) (fun m hm => (ih m hm).2), atom_step n (fun m hm => (ih m hm).1)⟩
theorem expr_c (n : Nat) : ExprC n := (expr_atom n).1
end
end Go.Proofs.YtkaeceedofmhbaaGreatDoor
