/-
  Plain Lean: no reading of a text ends for want of fuel: parseN_fine.
  syntax: reach1, whole.
  syntax: next. Made by gen/sy11.py.
-/
import Derived.Test.YtkaeceedofmhbaaGreatDoorGPKeep
import Derived.Test.YtkaeceedofmhbaaGreatDoorGSy9
import Derived.Deep.RegionHeld3
import Derived.WalkMore
import Derived.Deep.LoopGhost
import Derived.Defers
namespace Bk

theorem blanks_le' : ∀ (s : Bytes) (b : Bool), blanks b s ≤ s.length
  | [], b => by cases b <;> simp [blanks]
  | c :: r, false => by
    have h1 := blanks_le' r false
    have h2 := blanks_le' r true
    simp only [blanks, List.length_cons]
    split
    · omega
    · split <;> omega
  | c :: r, true => by
    have h1 := blanks_le' r false
    have h2 := blanks_le' r true
    simp only [blanks, List.length_cons]
    split <;> omega
theorem run_le' : ∀ s : Bytes, run s ≤ s.length
  | [] => Nat.le_refl _
  | c :: r => by
    have := run_le' r
    rw [run, List.length_cons]
    split <;> omega
theorem quoted_le (s : Bytes) : quoted s ≤ s.length := by
  fun_induction quoted s <;> simp <;> omega
theorem lexLen_cons (c : UInt8) (r : Bytes) : lexLen (c :: r) = if cls c = 3 ∨ cls c = 4 then run r + 1 else if c = 34 then quoted r + 1 else (match r with | [] => 1 | d :: _ => if pair c d then 2 else 1) := rfl
theorem lexLen_two (c : UInt8) (r : Bytes) : (match r with | [] => 1 | d :: _ => if pair c d then 2 else 1) = 1 ∨ (match r with | [] => 1 | d :: _ => if pair c d then 2 else 1) = 2 ∧ r ≠ [] := by
  cases r with
  | nil => exact .inl rfl
  | cons d r =>
    by_cases h : pair c d
    · exact .inr ⟨by simp [h], by simp⟩
    · exact .inl (by simp [h])
theorem lexLen_le (s : Bytes) : lexLen s ≤ s.length := by
  cases s with
  | nil => simp [lexLen]
  | cons c r =>
    have h1 := run_le' r
    have h2 := quoted_le r
    rw [lexLen_cons, List.length_cons]
    by_cases hc : cls c = 3 ∨ cls c = 4
    · rw [if_pos hc]; omega
    · rw [if_neg hc]
      by_cases hq : c = 34
      · rw [if_pos hq]; omega
      · rw [if_neg hq]
        rcases lexLen_two c r with h | ⟨h, hr⟩
        · rw [h]; omega
        · rw [h]
          have := List.length_pos_iff.2 hr
          omega
theorem lexLen_pos {s : Bytes} (h : s ≠ []) : 0 < lexLen s := by
  cases s with
  | nil => exact absurd rfl h
  | cons c r =>
    rw [lexLen_cons]
    by_cases hc : cls c = 3 ∨ cls c = 4
    · rw [if_pos hc]; omega
    · rw [if_neg hc]
      by_cases hq : c = 34
      · rw [if_pos hq]; omega
      · rw [if_neg hq]
        rcases lexLen_two c r with h | ⟨h, hr⟩ <;> rw [h] <;> omega

section
variable (src : Bytes)

/-- What always holds of a reader. -/
structure Inv (st : St) : Prop where
  ato : st.at_ ≤ st.to_
  tol : st.to_ ≤ src.length
  tok : st.tok.kind ≠ 0 → st.at_ < st.to_

/-- From a state to a later one: at least so many bytes on; what was asked for beyond a hundred a byte has grown by so much at most; nodes and items by no more than was read. -/
structure Go (c : Nat) (k : Int) (st st' : St) : Prop where
  fwd : st.at_ + c ≤ st'.at_
  pot : (st'.want.length : Int) - 100 * st'.at_ ≤ st.want.length - 100 * st.at_ + k
  nod : st'.nodes.length + st.at_ ≤ st.nodes.length + st'.at_
  itm : st'.items.length + st.at_ ≤ st.items.length + st'.at_
  opn : st'.opened = st.opened
  inv : Inv src st'

structure Few (st : St) (k : Int) : Prop where
  want : (st.want.length : Int) + k ≤ 100 * st.at_ + 1000
  nodes : st.nodes.length ≤ st.at_
  items : st.items.length ≤ st.at_
  inv : Inv src st
  len : src.length ≤ 1048576

/-- A result that is none for want of fuel. -/
def Fine {α : Type} (r : Res α) (Q : α → St → Prop) : Prop := match r with
  | .ok a st => Q a st
  | .bad .fuel => False
  | .bad (.stop _ _) => True

variable {src}

theorem Fine.bind {α β : Type} {m : M α} {f : α → M β} {st : St} {Q : α → St → Prop} {R : β → St → Prop} (h : Fine (m st) Q) (k : ∀ a st', Q a st' → Fine (f a st') R) : Fine ((m >>= f) st) R := by
  show Fine (M.bind m f st) R
  unfold M.bind
  revert h
  cases m st with
  | ok a st' => exact k a st'
  | bad h => cases h with
    | fuel => exact id
    | stop a b => exact id
theorem Fine.imp {α : Type} {r : Res α} {Q R : α → St → Prop} (h : Fine r Q) (k : ∀ a st', Q a st' → R a st') : Fine r R := by
  revert h
  cases r with
  | ok a st' => exact k a st'
  | bad h => cases h with
    | fuel => exact id
    | stop a b => exact id
theorem Fine.pure {α : Type} {a : α} {st : St} {Q : α → St → Prop} (h : Q a st) : Fine ((Pure.pure a : M α) st) Q := h
theorem Fine.iteM {α : Type} {c : Prop} [Decidable c] {a b : M α} {st : St} {Q : α → St → Prop} (h1 : c → Fine (a st) Q) (h2 : ¬ c → Fine (b st) Q) : Fine ((if c then a else b) st) Q := by
  by_cases h : c
  · rw [if_pos h]; exact h1 h
  · rw [if_neg h]; exact h2 h
theorem Fine.ite {α : Type} {c : Prop} [Decidable c] {a b : Res α} {Q : α → St → Prop} (h1 : c → Fine a Q) (h2 : ¬ c → Fine b Q) : Fine (if c then a else b) Q := by
  by_cases h : c
  · rw [if_pos h]; exact h1 h
  · rw [if_neg h]; exact h2 h

theorem Fine.iteBind {α β : Type} {c : Prop} [Decidable c] {a b : M α} {K : α → M β} {st : St} {Q : α → St → Prop} {R : β → St → Prop} (h1 : c → Fine (a st) Q) (h2 : ¬ c → Fine (b st) Q) (k : ∀ x st', Q x st' → Fine (K x st') R) : Fine ((if c then (a >>= K) else (b >>= K)) st) R :=
  Fine.iteM (fun h => (h1 h).bind k) (fun h => (h2 h).bind k)

theorem Go.trans {c d : Nat} {k l : Int} {a b e : St} (h : Go src c k a b) (g : Go src d l b e) : Go src (c + d) (k + l) a e :=
  ⟨by have := h.fwd; have := g.fwd; omega, by have := h.pot; have := g.pot; omega, by have := h.nod; have := g.nod; omega, by have := h.itm; have := g.itm; omega, g.opn.trans h.opn, g.inv⟩
theorem Go.weak {c d : Nat} {k l : Int} {a b : St} (h : Go src c k a b) (hc : d ≤ c) (hk : k ≤ l) : Go src d l a b :=
  ⟨by have := h.fwd; omega, by have := h.pot; omega, h.nod, h.itm, h.opn, h.inv⟩
theorem Go.refl {a : St} (h : Inv src a) : Go src 0 0 a a := ⟨Nat.le_refl _, by omega, Nat.le_refl _, Nat.le_refl _, rfl, h⟩
theorem Go.few {c : Nat} {k : Int} {a b : St} (h : Go src c k a b) {m n : Int} (hf : Few src a m) (hn : n + k ≤ m) : Few src b n := by
  have := h.pot
  have := hf.want
  have := hf.nodes
  have := hf.items
  have := h.nod
  have := h.itm
  exact ⟨by omega, by omega, by omega, h.inv, hf.len⟩
theorem Few.weak {a : St} {m n : Int} (h : Few src a m) (hn : n ≤ m) : Few src a n := ⟨by have := h.want; omega, h.nodes, h.items, h.inv, h.len⟩

/-- To the next lexeme. -/
theorem next_any {st : St} (h : Inv src st) : Fine (next src st) (fun _ st' => st.to_ ≤ st'.at_ ∧ st'.want = [] ∧ st'.opened = st.opened ∧ Inv src st' ∧ st'.items = st.items ∧ st'.nodes = st.nodes) := by
  have hb := blanks_le' (src.drop st.to_) false
  have htl := h.tol
  have e : (src.drop st.to_).length = src.length - st.to_ := by simp
  unfold next
  dsimp only
  generalize ha : st.to_ + blanks false (src.drop st.to_) = a
  have ha1 : st.to_ ≤ a := by omega
  have ha2 : a ≤ src.length := by omega
  have key : ∀ (tok : Tok) (bad n : Nat), a + n ≤ src.length → (tok.kind ≠ 0 → 0 < n) → (fun (_ : Unit) st' => st.to_ ≤ st'.at_ ∧ st'.want = [] ∧ st'.opened = st.opened ∧ Inv src st' ∧ st'.items = st.items ∧ st'.nodes = st.nodes) () { st with want := [], name := false, num := false, tok := tok, bad := bad, at_ := a, to_ := a + n } := fun tok bad n h1 h2 =>
    ⟨ha1, rfl, rfl, ⟨by show a ≤ a + n; omega, by show a + n ≤ src.length; omega, fun hk => by have := h2 hk; show a < a + n; omega⟩, rfl, rfl⟩
  refine Fine.ite (fun hs => ?_) (fun hs => ?_)
  · exact key {} 0 0 (by omega) (fun h => absurd rfl h)
  · have hne : src.drop a ≠ [] := by intro e; rw [e] at hs; exact hs rfl
    have h1 := lexLen_pos hne
    have h2 := lexLen_le (src.drop a)
    have e2 : (src.drop a).length = src.length - a := by simp
    generalize lexLen (src.drop a) = n at *
    split
    · exact key _ _ _ (by omega) (fun _ => h1)
    · exact key _ _ _ (by omega) (fun _ => h1)
    · exact key _ _ _ (by omega) (fun _ => h1)
/-- From one that there is. -/
theorem next_fine {st : St} (h : Inv src st) (ht : st.at_ < st.to_) : Fine (next src st) (fun _ st' => Go src 1 (-100) st st' ∧ st'.items = st.items ∧ st'.nodes = st.nodes) :=
  (next_any h).imp fun _ st' ⟨h1, h2, h3, h4, h5, h6⟩ => ⟨⟨by omega, by rw [h2]; simp; omega, by rw [h6]; omega, by rw [h5]; omega, h3, h4⟩, h5, h6⟩

theorem see_fine {st : St} (kind : Int) (hf : Few src st 1) : Fine (see kind st) (fun b st' => (b = true → st.tok.kind = kind ∧ st' = st) ∧ (b = false → st.tok.kind ≠ kind ∧ st' = { st with want := st.want ++ [kind] }) ∧ Go src 0 1 st st') := by
  have h := hf.inv
  unfold see
  refine Fine.ite (fun hk => ⟨fun _ => ⟨hk, rfl⟩, fun h => Bool.noConfusion h, (Go.refl h).weak (Nat.le_refl _) (by omega)⟩) fun hk => Fine.ite (fun hl => ⟨fun h => Bool.noConfusion h, fun _ => ⟨hk, rfl⟩, ?_⟩) (fun hl => ?_)
  · exact ⟨Nat.le_refl _, by simp; omega, Nat.le_refl _, Nat.le_refl _, rfl, ⟨h.ato, h.tol, h.tok⟩⟩
  · have := hf.want
    have := hf.len
    have := h.ato
    have := h.tol
    unfold most at hl
    omega

theorem take_fine {st : St} (kind : Int) (hk : kind ≠ 0) (hf : Few src st 1) :
    Fine (take src kind st) (fun b st' => if b then st.tok.kind = kind ∧ Go src 1 (-99) st st' else st.tok.kind ≠ kind ∧ Go src 0 1 st st') := by
  unfold take
  refine (see_fine kind hf).bind fun b st1 ⟨h1, h2, h3⟩ => ?_
  cases b with
  | true =>
    obtain ⟨e, rfl⟩ := h1 rfl
    refine (next_fine hf.inv (hf.inv.tok (by rw [e]; exact hk))).bind fun _ st2 ⟨g, _⟩ => ?_
    exact Fine.pure ⟨e, g.weak (Nat.le_refl _) (by omega)⟩
  | false => exact Fine.pure ⟨(h2 rfl).1, h3⟩
theorem take_light {st : St} (kind : Int) (hk : kind ≠ 0) (hf : Few src st 1) : Fine (take src kind st) (fun _ st' => Go src 0 1 st st') :=
  (take_fine kind hk hf).imp fun b st' h => by
    cases b with
    | true => exact h.2.weak (by omega) (by omega)
    | false => exact h.2
theorem fail_fine {α : Type} {st : St} {Q : α → St → Prop} : Fine (fail src st) Q := trivial
theorem must_fine {st : St} (kind : Int) (hk : kind ≠ 0) (hf : Few src st 1) : Fine (must src kind st) (fun _ st' => Go src 1 (-99) st st') := by
  unfold must
  refine (take_fine kind hk hf).bind fun b st1 h1 => ?_
  cases b with
  | true => exact Fine.pure h1.2
  | false => exact fail_fine
theorem Go.opened {c : Nat} {k : Int} {a b : St} (h : Go src c k a b) (n : Nat) (e : n = a.opened) : Go src c k a { b with opened := n } :=
  ⟨h.fwd, h.pot, h.nod, h.itm, e, ⟨h.inv.ato, h.inv.tol, h.inv.tok⟩⟩
theorem open_fine {st : St} (kind : Int) (hk : kind ≠ 0) (hf : Few src st 1) :
    Fine (open_ src kind st) (fun _ st' => st'.opened = st.opened + 1 ∧ Go src 1 (-99) st { st' with opened := st.opened }) := by
  unfold open_
  refine (see_fine kind hf).bind fun b st1 ⟨h1, h2, h3⟩ => ?_
  cases b with
  | true =>
    obtain ⟨e, rfl⟩ := h1 rfl
    have h := hf.inv
    refine Fine.ite (fun _ => trivial) fun _ => ?_
    have h' : Inv src { st1 with opened := st1.opened + 1 } := ⟨h.ato, h.tol, h.tok⟩
    refine (next_fine h' (h.tok (by rw [e]; exact hk))).imp fun _ st2 ⟨g, _⟩ => ?_
    exact ⟨g.opn, ⟨g.fwd, by have := g.pot; simp only at this ⊢; omega, g.nod, g.itm, rfl, ⟨g.inv.ato, g.inv.tol, g.inv.tok⟩⟩⟩
  | false => exact fail_fine
/-- Between an opening and its shutting. -/
structure In (src : Bytes) (c : Nat) (k : Int) (st st' : St) : Prop where
  opn : st'.opened = st.opened + 1
  go : Go src c k st { st' with opened := st.opened }
theorem open_in {st : St} (kind : Int) (hk : kind ≠ 0) (hf : Few src st 1) : Fine (open_ src kind st) (fun _ st' => In src 1 (-99) st st') := (open_fine kind hk hf).imp fun _ _ h => ⟨h.1, h.2⟩
theorem In.few {c : Nat} {k : Int} {a b : St} (h : In src c k a b) {m n : Int} (hf : Few src a m) (hn : n + k ≤ m) : Few src b n := by
  have g := h.go.few hf hn
  exact ⟨g.want, g.nodes, g.items, ⟨g.inv.ato, g.inv.tol, g.inv.tok⟩, g.len⟩
theorem In.on {c d : Nat} {k l : Int} {a b e : St} (h : In src c k a b) (g : Go src d l b e) : In src (c + d) (k + l) a e := by
  refine ⟨g.opn.trans h.opn, ?_⟩
  have x := h.go
  exact ⟨by have := x.fwd; have := g.fwd; simp only at *; omega, by have := x.pot; have := g.pot; simp only at *; omega, by have := x.nod; have := g.nod; simp only at *; omega, by have := x.itm; have := g.itm; simp only at *; omega, rfl, ⟨g.inv.ato, g.inv.tol, g.inv.tok⟩⟩
theorem shut_in {c : Nat} {k : Int} {a st : St} (i : In src c k a st) (kind : Int) (hk : kind ≠ 0) (hf : Few src st 1) : Fine (shut src kind st) (fun _ st' => Go src (c + 1) (k - 99) a st') := by
  unfold shut
  refine (must_fine kind hk hf).bind fun _ st1 g => ?_
  have j := i.on g
  refine Fine.ite (fun e => ?_) fun e => ?_
  · have := j.opn; omega
  · have x := j.go
    exact ⟨x.fwd, by have := x.pot; simp only at this ⊢; omega, x.nod, x.itm, by have := j.opn; show st1.opened - 1 = a.opened; omega, ⟨x.inv.ato, x.inv.tol, x.inv.tok⟩⟩
theorem word_fine {st : St} (h : Inv src st) : Fine (word src st) (fun _ st' => Go src 1 (-100) st st') := by
  unfold word
  dsimp only
  refine Fine.ite (fun e => ?_) fun _ => fail_fine
  have h' : Inv src { st with name := true } := ⟨h.ato, h.tol, h.tok⟩
  refine (next_fine h' (h.tok (by rw [show st.tok.kind = 1 from e]; decide))).bind fun _ st2 ⟨g, _⟩ => ?_
  exact Fine.pure ⟨g.fwd, g.pot, g.nod, g.itm, g.opn, g.inv⟩
theorem word_fine' {st : St} (h : Inv src st) : Fine (word src st) (fun f st' => Go src 1 (-100) st st' ∧ f.index.length = 0) := by
  unfold word
  dsimp only
  refine Fine.ite (fun e => ?_) fun _ => fail_fine
  have h' : Inv src { st with name := true } := ⟨h.ato, h.tol, h.tok⟩
  refine (next_fine h' (h.tok (by rw [show st.tok.kind = 1 from e]; decide))).bind fun _ st2 ⟨g, _⟩ => ?_
  exact Fine.pure ⟨⟨g.fwd, g.pot, g.nod, g.itm, g.opn, g.inv⟩, rfl⟩
theorem asks_fine (above top : Int) : ∀ (n : Nat) (k : Int) (st : St), Few src st n → Fine (asks above top n k st) (fun _ st' => (∃ w, st' = { st with want := w }) ∧ Go src 0 n st st')
  | 0, k, st, hf => Fine.pure ⟨⟨st.want, rfl⟩, Go.refl hf.inv⟩
  | n + 1, k, st, hf => by
    rw [asks]
    have rec' : ∀ st1, (∃ w, st1 = { st with want := w }) → Go src 0 1 st st1 → Fine (asks above top n (k + 1) st1) (fun _ st' => (∃ w, st' = { st with want := w }) ∧ Go src 0 (n + 1 : Nat) st st') := fun st1 ⟨w, e⟩ g =>
      (asks_fine above top n (k + 1) st1 (g.few hf (by omega))).imp fun _ st2 ⟨⟨w2, e2⟩, g2⟩ => ⟨⟨w2, by rw [e2, e]⟩, (g.trans g2).weak (by omega) (by omega)⟩
    refine Fine.iteM (fun _ => ?_) (fun _ => ?_)
    · refine (see_fine k (hf.weak (by omega))).bind fun b st1 ⟨h1, h2, h3⟩ => rec' st1 ?_ h3
      cases b with
      | true => exact ⟨st.want, by rw [(h1 rfl).2]⟩
      | false => exact ⟨_, (h2 rfl).2⟩
    · exact rec' st ⟨st.want, rfl⟩ ((Go.refl hf.inv).weak (Nat.le_refl _) (by omega))

theorem node_fine {st : St} (x : NodeV) (hf : Few src st 0) {Q : Int → St → Prop} (hq : Q st.nodes.length { st with nodes := st.nodes ++ [x] }) : Fine (node x st) Q := by
  unfold node
  refine Fine.ite (fun _ => hq) fun hl => ?_
  have := hf.nodes
  have := hf.len
  have := hf.inv.ato
  have := hf.inv.tol
  unfold most at hl
  omega
theorem rank_zero : rank 0 = 0 := rfl

theorem expr_fine : ∀ n : Nat,
    (∀ (above : Int) (st : St), 0 ≤ above → Few src st 40 → 2 * (src.length - st.at_) + 2 ≤ n → Fine (expr src n above st) (fun _ st' => Go src 1 (-80) st st')) ∧
    (∀ (above a top : Int) (st : St), 0 ≤ above → Few src st 20 → 2 * (src.length - st.at_) + 1 ≤ n → Fine (exprOn src n above a top st) (fun _ st' => Go src 0 16 st st')) ∧
    (∀ (st : St), Few src st 20 → 2 * (src.length - st.at_) + 1 ≤ n → Fine (atom src n st) (fun _ st' => Go src 1 (-98) st st'))
  | 0 => ⟨fun _ _ _ _ h => by omega, fun _ _ _ _ _ _ h => by omega, fun _ _ h => by omega⟩
  | n + 1 => by
    obtain ⟨he, ho, ha⟩ := expr_fine n
    refine ⟨fun above st h0 hf hn => ?_, fun above a top st h0 hf hn => ?_, fun st hf hn => ?_⟩
    · rw [expr]
      refine (ha st (hf.weak (by omega)) (by omega)).bind fun a st1 g => ?_
      refine (ho above a 8 st1 h0 (g.few hf (by omega)) (by have := g.fwd; omega)).imp fun _ st2 g2 => (g.trans g2).weak (by omega) (by omega)
    · rw [exprOn]
      refine (asks_fine above top 16 14 st (hf.weak (by omega))).bind fun _ st1 ⟨⟨w, e⟩, g⟩ => ?_
      have gi := g.inv
      refine Fine.ite (fun _ => g) fun hr => ?_
      have hk : st1.tok.kind ≠ 0 := by intro e; rw [e, rank_zero] at hr; omega
      have g1 : st1.at_ = st.at_ := by rw [e]
      have glt := gi.tok hk
      refine (next_fine gi (gi.tok hk)).bind fun _ st2 ⟨g2, _, _⟩ => ?_
      have hr0 : (0 : Int) ≤ rank st1.tok.kind := by omega
      refine (he (rank st1.tok.kind) st2 hr0 (g2.few (g.few hf (n := 4) (by omega)) (by omega)) (by have := g2.fwd; have := gi.ato; have := gi.tol; omega)).bind fun b st3 g3 => ?_
      have g13 := g2.trans g3
      have f3 := g13.few (g.few hf (n := 4) (by omega)) (n := 60) (by omega)
      have hnd : st3.nodes.length + 1 + st1.at_ ≤ st1.nodes.length + st3.at_ := by
        have x2 := g2.fwd; have x3 := g3.nod
        have : st2.nodes.length = st1.nodes.length := by rename_i h1 h2; rw [h2]
        omega
      refine Fine.bind (node_fine (Q := fun _ st' => Go src 2 (-100) st1 st') _ (f3.weak (by omega)) ?_) fun a' st4 g4 => ?_
      · exact ⟨by have := g13.fwd; show _ ≤ st3.at_; omega, by have := g13.pot; show (st3.want.length : Int) - 100 * st3.at_ ≤ _; omega, by simp; omega, by have := g13.itm; exact this, g13.opn, ⟨g13.inv.ato, g13.inv.tol, g13.inv.tok⟩⟩
      · refine (ho above a' _ st4 h0 (g4.few (g.few hf (n := 4) (by omega)) (by omega)) (by have := g4.fwd; have := gi.ato; have := gi.tol; omega)).imp fun _ st5 g5 => ((g.trans g4).trans g5).weak (by omega) (by omega)
    · rw [atom]
      dsimp only
      generalize hst0 : ({ st with num := true, name := true } : St) = st0
      have g0 : Go src 0 0 st st0 := by subst hst0; exact ⟨Nat.le_refl _, by simp, Nat.le_refl _, Nat.le_refl _, rfl, ⟨hf.inv.ato, hf.inv.tol, hf.inv.tok⟩⟩
      have e0 : st0.at_ = st.at_ := by subst hst0; rfl
      have f0 := g0.few hf (n := 20) (by omega)
      refine (see_fine 8 (f0.weak (by omega))).bind fun b st1 ⟨h1, h2, h3⟩ => ?_
      cases b with
      | true =>
        refine Fine.iteM (fun _ => ?_) (fun h => absurd rfl h)
        obtain ⟨e, rfl⟩ := h1 rfl
        refine (open_in 8 (by decide) (f0.weak (by omega))).bind fun _ st2 i => ?_
        have f2 := i.few f0 (n := 100) (by omega)
        refine (he 0 st2 (by omega) (f2.weak (by omega)) (by have := i.go.fwd; have := f0.inv.ato; have := f0.inv.tol; have := f0.inv.tok (by rw [e]; decide); simp only at *; omega)).bind fun k st3 g3 => ?_
        have j := i.on g3
        refine (shut_in j 9 (by decide) (j.few f0 (by omega))).bind fun _ st4 g4 => ?_
        exact Fine.pure ((g0.trans g4).weak (by omega) (by omega))
      | false =>
        refine Fine.iteM (fun h => Bool.noConfusion h) (fun _ => ?_)
        have g1 := g0.trans h3
        have f1 := h3.few f0 (n := 1) (by omega)
        have put : ∀ x : NodeV, st1.tok.kind ≠ 0 → Fine ((do let k ← node x; next src; return k : M Int) st1) (fun _ st' => Go src 1 (-98) st st') := fun x hk => by
          refine Fine.bind (node_fine (Q := fun _ st' => st' = { st1 with nodes := st1.nodes ++ [x] }) _ (f1.weak (by omega)) rfl) fun k st2 e2 => ?_
          subst e2
          refine (next_fine (st := { st1 with nodes := st1.nodes ++ [x] }) ⟨f1.inv.ato, f1.inv.tol, f1.inv.tok⟩ (f1.inv.tok hk)).bind fun _ st3 ⟨g3, _, en⟩ => Fine.pure ?_
          have a1 := g3.fwd
          have a2 := g3.pot
          have a3 := g3.itm
          have a5 : st3.nodes.length = st1.nodes.length + 1 := by rw [en]; simp
          simp only at a1 a2 a3
          exact (g1.trans ⟨a1, a2, by omega, a3, g3.opn, g3.inv⟩).weak (by omega) (by omega)
        refine Fine.ite (fun hk => put _ (by rw [hk]; decide)) fun _ => Fine.ite (fun hk => put _ (by rw [hk]; decide)) fun _ => fail_fine

theorem refOn_fine : ∀ (n : Nat) (f : RefV) (st : St), Few src st 100 → f.index.length ≤ st.at_ → 2 * (src.length - st.at_) + 3 ≤ n → Fine (refOn src n f st) (fun _ st' => Go src 0 1 st st')
  | 0, _, _, _, _, h => by omega
  | n + 1, f, st, hf, hi, hn => by
    rw [refOn]
    refine (see_fine 6 (hf.weak (by omega))).bind fun b st1 ⟨h1, h2, h3⟩ => ?_
    cases b with
    | true =>
      refine Fine.iteM (fun _ => ?_) (fun h => absurd rfl h)
      obtain ⟨e, rfl⟩ := h1 rfl
      have hlt := hf.inv.tok (by rw [e]; decide)
      have := hf.inv.tol
      have := hf.len
      refine (open_in 6 (by decide) (hf.weak (by omega))).bind fun _ st2 i => ?_
      have i1 := i.go.fwd
      simp only at i1
      refine ((expr_fine n).1 0 st2 (by omega) (i.few hf (by omega)) (by omega)).bind fun k st3 g3 => ?_
      have j := i.on g3
      refine (shut_in j 7 (by decide) (j.few hf (by omega))).bind fun _ st4 g4 => ?_
      have := g4.fwd
      refine Fine.iteM (fun _ => ?_) (fun hl => ?_)
      · refine (refOn_fine n _ st4 (g4.few hf (by omega)) (by simp; omega) (by omega)).imp fun _ st5 g5 => (g4.trans g5).weak (by omega) (by omega)
      · unfold most at hl; omega
    | false =>
      refine Fine.iteM (fun h => Bool.noConfusion h) (fun _ => ?_)
      exact Fine.pure h3
theorem ref_fine {n : Nat} {st : St} (hf : Few src st 20) (hn : 2 * (src.length - st.at_) + 3 ≤ n) : Fine (ref src n st) (fun _ st' => Go src 1 (-99) st st') := by
  unfold ref
  have hn' : src.length ≥ st.at_ := by have := hf.inv.ato; have := hf.inv.tol; omega
  refine (word_fine' hf.inv).bind fun f st1 ⟨g, hi⟩ => ?_
  refine (refOn_fine n f st1 (g.few hf (by omega)) (by omega) (by have := g.fwd; omega)).imp fun _ st2 g2 => (g.trans g2).weak (by omega) (by omega)
theorem more_fine {n : Nat} {x : ItemV} {st : St} (hf : Few src st 40) (hx : x.e.length ≤ st.at_) (hn : 2 * (src.length - st.at_) + 2 ≤ n) : Fine (more src n x st) (fun x' st' => Go src 1 (-80) st st' ∧ x'.e.length ≤ st'.at_) := by
  unfold more
  refine ((expr_fine n).1 0 st (by omega) hf hn).bind fun k st1 g => ?_
  have := g.fwd
  have := g.inv.ato
  have := g.inv.tol
  have := hf.len
  refine Fine.iteM (fun _ => Fine.pure ⟨g, by simp; omega⟩) (fun hl => ?_)
  unfold most at hl; omega
theorem number_fine {n : Nat} {x : ItemV} {st : St} (w : Int) (hw : w ≠ 0) (hf : Few src st 1) (hx : x.e.length ≤ st.at_) (hn : 2 * (src.length - st.at_) + 2 ≤ n) : Fine (number src n x w st) (fun x' st' => Go src 2 (-99) st st' ∧ x'.e.length ≤ st'.at_) := by
  unfold number
  refine (must_fine w hw hf).bind fun _ st1 g => ?_
  have := g.fwd
  refine (more_fine (g.few hf (by omega)) (by omega) (by omega)).imp fun x' st2 ⟨g2, h2⟩ => ⟨(g.trans g2).weak (by omega) (by omega), h2⟩
theorem flag_fine {x : ItemV} {st : St} (w f : Int) (hw : w ≠ 0) (hf : Few src st 1) (hx : x.e.length ≤ st.at_) : Fine (flag src x w f st) (fun r st' => Go src 0 1 st st' ∧ r.2.e.length ≤ st'.at_) := by
  unfold flag
  refine (take_light w hw hf).bind fun b st1 g => ?_
  have := g.fwd
  refine Fine.iteM (fun _ => Fine.pure ⟨g, ?_⟩) (fun _ => Fine.pure ⟨g, ?_⟩)
  · show x.e.length ≤ _; omega
  · show x.e.length ≤ _; omega
theorem useOn_fine : ∀ (n : Nat) (x : ItemV) (st : St), Few src st 60 → x.e.length ≤ st.at_ → 2 * (src.length - st.at_) + 3 ≤ n → Fine (useOn src n x st) (fun _ st' => Go src 0 1 st st')
  | 0, _, _, _, _, h => by omega
  | n + 1, x, st, hf, hi, hn => by
    rw [useOn]
    refine (see_fine 9 (hf.weak (by omega))).bind fun b st1 ⟨h1, h2, h3⟩ => ?_
    have := h3.fwd
    refine Fine.iteM (fun _ => ?_) (fun _ => Fine.pure h3)
    refine (more_fine (h3.few hf (by omega)) (by omega) (by omega)).bind fun x' st2 ⟨g2, hx⟩ => ?_
    have g3 := h3.trans g2
    have := g3.fwd
    have := g2.fwd
    refine (take_fine 11 (by decide) (g3.few hf (by omega))).bind fun b st3 h4 => ?_
    cases b with
    | true =>
      refine Fine.iteM (fun _ => ?_) (fun h => absurd rfl h)
      have g4 := g3.trans h4.2
      have := h4.2.fwd
      have := g4.inv.ato
      have := g4.inv.tol
      have := h3.inv.ato
      have := h3.inv.tol
      refine (useOn_fine n x' st3 (g4.few hf (by omega)) (by omega) (by omega)).imp fun _ st4 g5 => (g4.trans g5).weak (by omega) (by omega)
    | false =>
      refine Fine.iteM (fun h => Bool.noConfusion h) (fun _ => ?_)
      -- what was read pays for what was asked
      exact Fine.pure ((g3.trans h4.2).weak (by omega) (by omega))
theorem groupOn_fine : ∀ (n : Nat) (x : ItemV) (st : St), Few src st 60 → x.params.length ≤ st.at_ → 2 * (src.length - st.at_) + 3 ≤ n → Fine (groupOn src n x st) (fun _ st' => Go src 0 1 st st')
  | 0, _, _, _, _, h => by omega
  | n + 1, x, st, hf, hi, hn => by
    rw [groupOn]
    refine (see_fine 9 (hf.weak (by omega))).bind fun b st1 ⟨h1, h2, h3⟩ => ?_
    have := h3.fwd
    refine Fine.iteM (fun _ => ?_) (fun _ => Fine.pure h3)
    refine (word_fine h3.inv).bind fun f st2 g2 => ?_
    have g3 := h3.trans g2
    have := g3.fwd
    have := g3.inv.ato
    have := g3.inv.tol
    have := hf.len
    refine Fine.iteM (fun _ => ?_) (fun hl => by unfold most at hl; omega)
    refine (take_fine 11 (by decide) (g3.few hf (by omega))).bind fun b st3 h4 => ?_
    cases b with
    | true =>
      refine Fine.iteM (fun _ => ?_) (fun h => absurd rfl h)
      have g4 := g3.trans h4.2
      have := h4.2.fwd
      refine (groupOn_fine n _ st3 (g4.few hf (by omega)) (by simp; omega) (by omega)).imp fun _ st4 g5 => (g4.trans g5).weak (by omega) (by omega)
    | false =>
      refine Fine.iteM (fun h => Bool.noConfusion h) (fun _ => ?_)
      exact Fine.pure ((g3.trans h4.2).weak (by omega) (by omega))

/-- From the beginning of a function to here; so many numbers are held. -/
structure Acc (src : Bytes) (st0 : St) (k : Int) (m : Nat) (st : St) : Prop where
  go : Go src 0 k st0 st
  len : m ≤ st.at_

section
variable {st0 st : St} {k : Int} {m n : Nat}
theorem Acc.on {c : Nat} {d : Int} {st' : St} (h : Acc src st0 k m st) (g : Go src c d st st') : Acc src st0 (k + d) m st' := ⟨(h.go.trans g).weak (by omega) (by omega), by have := g.fwd; have := h.len; omega⟩
theorem Acc.less {l : Int} {m' : Nat} (h : Acc src st0 k m st) (hk : k ≤ l) (hm : m' ≤ m) : Acc src st0 l m' st := ⟨h.go.weak (by omega) hk, by have := h.len; omega⟩
theorem Acc.few (h : Acc src st0 k m st) (f0 : Few src st0 100) (d : Int) (hk : k + d ≤ 100) : Few src st d := h.go.few f0 (by omega)
theorem a_ref (f0 : Few src st0 100) (h : Acc src st0 k m st) (hk : k ≤ 20) (hn : 2 * (src.length - st0.at_) + 3 ≤ n) : Fine (ref src n st) (fun _ st' => Acc src st0 k m st') :=
  (ref_fine (h.few f0 20 (by omega)) (by have := h.go.fwd; omega)).imp fun _ _ g => (h.on g).less (by omega) (Nat.le_refl _)
theorem a_must (w : Int) (hw : w ≠ 0) (f0 : Few src st0 100) (h : Acc src st0 k m st) (hk : k ≤ 20) : Fine (must src w st) (fun _ st' => Acc src st0 (k - 99) m st') :=
  (must_fine w hw (h.few f0 1 (by omega))).imp fun _ _ g => (h.on g).less (by omega) (Nat.le_refl _)
theorem a_more {x : ItemV} (f0 : Few src st0 100) (h : Acc src st0 k x.e.length st) (hk : k ≤ 20) (hn : 2 * (src.length - st0.at_) + 3 ≤ n) : Fine (more src n x st) (fun x' st' => Acc src st0 k x'.e.length st') :=
  (more_fine (h.few f0 40 (by omega)) h.len (by have := h.go.fwd; omega)).imp fun _ _ ⟨g, e⟩ => ⟨((h.on g).less (l := k) (by omega) (Nat.le_refl _)).go, e⟩
theorem a_number {x : ItemV} (w : Int) (hw : w ≠ 0) (f0 : Few src st0 100) (h : Acc src st0 k x.e.length st) (hk : k ≤ 20) (hn : 2 * (src.length - st0.at_) + 3 ≤ n) : Fine (number src n x w st) (fun x' st' => Acc src st0 k x'.e.length st') :=
  (number_fine w hw (h.few f0 1 (by omega)) h.len (by have := h.go.fwd; omega)).imp fun _ _ ⟨g, e⟩ => ⟨((h.on g).less (l := k) (by omega) (Nat.le_refl _)).go, e⟩
theorem a_flag {x : ItemV} (w f : Int) (hw : w ≠ 0) (f0 : Few src st0 100) (h : Acc src st0 k x.e.length st) (hk : k ≤ 20) : Fine (flag src x w f st) (fun r st' => Acc src st0 (k + 1) r.2.e.length st') :=
  (flag_fine w f hw (h.few f0 1 (by omega)) h.len).imp fun _ _ ⟨g, e⟩ => ⟨(h.on g).go, e⟩
theorem a_take (w : Int) (hw : w ≠ 0) (f0 : Few src st0 100) (h : Acc src st0 k m st) (hk : k ≤ 20) : Fine (take src w st) (fun _ st' => Acc src st0 (k + 1) m st') :=
  (take_light w hw (h.few f0 1 (by omega))).imp fun _ _ g => h.on g
theorem a_see (w : Int) (f0 : Few src st0 100) (h : Acc src st0 k m st) (hk : k ≤ 20) : Fine (see w st) (fun _ st' => Acc src st0 (k + 1) m st') :=
  (see_fine w (h.few f0 1 (by omega))).imp fun _ _ g => h.on g.2.2
theorem a_end (w : Int) (hw : w ≠ 0) (f0 : Few src st0 100) (h : Acc src st0 k m st) (hk : k ≤ 20) {x : ItemV} : Fine ((do must src w; return x : M ItemV) st) (fun _ st' => Go src 1 (-70) st0 st') :=
  (must_fine w hw (h.few f0 1 (by omega))).bind fun _ _ g => Fine.pure ((h.go.trans g).weak (by omega) (by omega))
theorem Acc.start {x : ItemV} (f0 : Few src st0 100) (hx : x.e.length ≤ st0.at_) : Acc src st0 0 x.e.length st0 := ⟨Go.refl f0.inv, hx⟩

theorem use_fine {x : ItemV} (f0 : Few src st0 100) (hx : x.e.length ≤ st0.at_) (hn : 2 * (src.length - st0.at_) + 3 ≤ n) : Fine (use src n x st0) (fun _ st' => Go src 1 (-70) st0 st') := by
  unfold use
  refine (word_fine f0.inv).bind fun f st1 g1 => ?_
  refine (open_in 8 (by decide) (g1.few f0 (by omega))).bind fun _ st2 i => ?_
  have := g1.fwd
  have := i.go.fwd
  simp only at this
  refine (useOn_fine n _ st2 (i.few (g1.few f0 (n := 100) (by omega)) (by omega)) (by show x.e.length ≤ _; omega) (by omega)).bind fun x' st3 g3 => ?_
  have j := i.on g3
  refine (shut_in j 9 (by decide) (j.few (g1.few f0 (n := 100) (by omega)) (by omega))).bind fun _ st4 g4 => ?_
  have g := g1.trans g4
  exact a_end (k := 0) (m := 0) 10 (by decide) f0 ⟨g.weak (by omega) (by omega), by omega⟩ (by omega)
theorem ram_fine {x : ItemV} (f0 : Few src st0 100) (hx : x.e.length ≤ st0.at_) (hn : 2 * (src.length - st0.at_) + 3 ≤ n) : Fine (ram src n x st0) (fun _ st' => Go src 1 (-70) st0 st') := by
  unfold ram
  refine (a_more f0 (Acc.start f0 hx) (by omega) hn).bind fun x st1 h => ?_
  refine (a_number 40 (by decide) f0 h (by omega) hn).bind fun x st2 h => ?_
  exact a_end 10 (by decide) f0 h (by omega)
theorem a_text {x : ItemV} (fl : Int) (h : Acc src st0 k x.e.length st) (ht : st.tok.kind = 3) : Fine ((do next src; return { x with flags := fl, text := st.tok.s } : M ItemV) st) (fun x' st' => Acc src st0 (k + 1) x'.e.length st') :=
  (next_fine h.go.inv (h.go.inv.tok (by rw [ht]; decide))).bind fun _ _ g => Fine.pure ((h.on g.1).less (by omega) (Nat.le_refl _))
theorem region_fine {x : ItemV} (f0 : Few src st0 100) (hx : x.e.length ≤ st0.at_) (hn : 2 * (src.length - st0.at_) + 3 ≤ n) : Fine (region src n x st0) (fun _ st' => Go src 1 (-70) st0 st') := by
  unfold region
  refine (a_ref f0 (Acc.start f0 hx) (by omega) hn).bind fun f st1 h => ?_
  refine (a_number (x := { x with name := f }) 40 (by decide) f0 h (by omega) hn).bind fun x st2 h => ?_
  refine (a_flag 42 1 (by decide) f0 h (by omega)).bind fun r st3 h => ?_
  obtain ⟨b, x⟩ := r
  refine Fine.iteBind (Q := fun (x' : ItemV) st' => Acc src st0 1 x'.e.length st') (fun _ => (a_more f0 h (by omega) hn).imp fun _ _ g => g.less (by omega) (Nat.le_refl _)) (fun _ => Fine.pure (h.less (by omega) (Nat.le_refl _))) fun x st4 h => ?_
  refine (a_flag 45 2 (by decide) f0 h (by omega)).bind fun r st5 h => ?_
  obtain ⟨b, x⟩ := r
  refine (a_flag 46 4 (by decide) f0 h (by omega)).bind fun r st6 h => ?_
  obtain ⟨b, x⟩ := r
  refine (a_take 47 (by decide) f0 h (by omega)).bind fun b st7 h => ?_
  refine Fine.iteBind (Q := fun (x' : ItemV) st' => Acc src st0 6 x'.e.length st') (fun _ => ?_) (fun _ => Fine.pure (h.less (by omega) (Nat.le_refl _))) fun x st8 h => ?_
  · refine (see_fine 3 (h.few f0 1 (by omega))).bind fun b st8 ⟨h1, h2, h3⟩ => ?_
    have h := h.on h3
    refine Fine.iteM (fun e => ?_) (fun _ => ?_)
    · exact (a_text _ h (by rw [(h1 e).2]; exact (h1 e).1)).imp fun _ _ g => g.less (by omega) (Nat.le_refl _)
    · exact (a_more (x := { x with flags := orF x.flags 8 }) f0 h (by omega) hn).imp fun _ _ g => g.less (by omega) (Nat.le_refl _)
  · exact a_end 10 (by decide) f0 h (by omega)
theorem ends_fine {x : ItemV} (f0 : Few src st0 100) (hx : x.e.length ≤ st0.at_) (hn : 2 * (src.length - st0.at_) + 3 ≤ n) : Fine (ends src n x st0) (fun x' st' => Acc src st0 0 x'.e.length st') := by
  unfold ends
  refine (a_ref f0 (Acc.start f0 hx) (by omega) hn).bind fun f st1 h => ?_
  refine (a_must 60 (by decide) f0 h (by omega)).bind fun _ st2 h => ?_
  refine (a_ref f0 h (by omega) hn).bind fun g st3 h => ?_
  refine (a_must 61 (by decide) f0 h (by omega)).bind fun _ st4 h => ?_
  refine (a_ref f0 h (by omega) hn).bind fun f st5 h => ?_
  exact Fine.pure (h.less (by omega) (Nat.le_refl _))
theorem channel_fine {x : ItemV} (f0 : Few src st0 100) (hx : x.e.length ≤ st0.at_) (hn : 2 * (src.length - st0.at_) + 3 ≤ n) : Fine (channel src n x st0) (fun _ st' => Go src 1 (-70) st0 st') := by
  unfold channel
  refine (ends_fine f0 hx hn).bind fun x st1 h => ?_
  refine (a_flag 62 2048 (by decide) f0 h (by omega)).bind fun r st3 h => ?_
  obtain ⟨b, x⟩ := r
  have rest : ∀ (x : ItemV) st', Acc src st0 6 x.e.length st' → Fine ((do must src 10; return x : M ItemV) st') (fun _ st' => Go src 1 (-70) st0 st') := fun x st' h => a_end 10 (by decide) f0 h (by omega)
  refine Fine.iteBind (Q := fun (x' : ItemV) st' => Acc src st0 1 x'.e.length st') (fun _ => (a_ref f0 h (by omega) hn).bind fun _ _ g => Fine.pure (g.less (by omega) (Nat.le_refl _))) (fun _ => Fine.pure (h.less (by omega) (Nat.le_refl _))) fun x st4 h => ?_
  refine (a_see 58 f0 h (by omega)).bind fun b st5 h => ?_
  refine Fine.iteBind (Q := fun (x' : ItemV) st' => Acc src st0 6 x'.e.length st') (fun _ => ?_) (fun _ => ?_) rest
  · exact (a_number (x := { x with how := 1 }) 58 (by decide) f0 h (by omega) hn).imp fun _ _ g => g.less (by omega) (Nat.le_refl _)
  · refine (a_take 56 (by decide) f0 h (by omega)).bind fun b st7 h => ?_
    refine Fine.iteM (fun _ => Fine.pure (h.less (by omega) (Nat.le_refl _))) (fun _ => ?_)
    refine (a_take 55 (by decide) f0 h (by omega)).bind fun b st7 h => ?_
    refine Fine.iteM (fun _ => Fine.pure (h.less (by omega) (Nat.le_refl _))) (fun _ => ?_)
    exact (a_must 63 (by decide) f0 h (by omega)).bind fun _ _ g => Fine.pure (g.less (by omega) (Nat.le_refl _))
theorem irq_fine {x : ItemV} (f0 : Few src st0 100) (hx : x.e.length ≤ st0.at_) (hn : 2 * (src.length - st0.at_) + 3 ≤ n) : Fine (irq src n x st0) (fun _ st' => Go src 1 (-70) st0 st') := by
  unfold irq
  refine (ends_fine f0 hx hn).bind fun x st1 h => ?_
  refine (a_number 58 (by decide) f0 h (by omega) hn).bind fun x st2 h => ?_
  refine (a_flag 65 256 (by decide) f0 h (by omega)).bind fun r st3 h => ?_
  exact a_end 10 (by decide) f0 h (by omega)
theorem queue_fine {x : ItemV} (f0 : Few src st0 100) (hx : x.e.length ≤ st0.at_) (hn : 2 * (src.length - st0.at_) + 3 ≤ n) : Fine (queue src n x st0) (fun _ st' => Go src 1 (-70) st0 st') := by
  unfold queue
  refine (ends_fine f0 hx hn).bind fun x st1 h => ?_
  refine (a_number 76 (by decide) f0 h (by omega) hn).bind fun x st2 h => ?_
  refine (a_flag 77 8192 (by decide) f0 h (by omega)).bind fun r st3 h => ?_
  exact a_end 10 (by decide) f0 h (by omega)
theorem forbid_fine {x : ItemV} (f0 : Few src st0 100) (hx : x.e.length ≤ st0.at_) (hn : 2 * (src.length - st0.at_) + 3 ≤ n) : Fine (forbid src n x st0) (fun _ st' => Go src 1 (-70) st0 st') := by
  unfold forbid
  refine (a_ref f0 (Acc.start f0 hx) (by omega) hn).bind fun f st1 h => ?_
  refine (a_must 61 (by decide) f0 h (by omega)).bind fun _ st2 h => ?_
  refine (a_ref f0 h (by omega) hn).bind fun g st3 h => ?_
  exact a_end 10 (by decide) f0 h (by omega)
theorem sample_fine {x : ItemV} (f0 : Few src st0 100) (hx : x.e.length ≤ st0.at_) (hn : 2 * (src.length - st0.at_) + 3 ≤ n) : Fine (sample src n x st0) (fun _ st' => Go src 1 (-70) st0 st') := by
  unfold sample
  refine (ends_fine f0 hx hn).bind fun x st1 h => ?_
  exact a_end 10 (by decide) f0 h (by omega)
theorem pick_fine {x : ItemV} (f0 : Few src st0 100) (hx : x.e.length ≤ st0.at_) (hn : 2 * (src.length - st0.at_) + 3 ≤ n) : Fine (pick src n x st0) (fun _ st' => Go src 1 (-70) st0 st') := by
  unfold pick
  refine (a_ref f0 (Acc.start f0 hx) (by omega) hn).bind fun f st1 h => ?_
  exact a_end 10 (by decide) f0 h (by omega)
theorem mapping_fine {x : ItemV} (f0 : Few src st0 100) (hx : x.e.length ≤ st0.at_) (hn : 2 * (src.length - st0.at_) + 3 ≤ n) : Fine (mapping src n x st0) (fun _ st' => Go src 1 (-70) st0 st') := by
  unfold mapping
  refine (a_ref f0 (Acc.start f0 hx) (by omega) hn).bind fun f st1 h => ?_
  refine (a_number (x := { x with name := f }) 42 (by decide) f0 h (by omega) hn).bind fun x st2 h => ?_
  refine (a_flag 52 32 (by decide) f0 h (by omega)).bind fun r st3 h => ?_
  refine (a_flag 53 64 (by decide) f0 h (by omega)).bind fun r st3 h => ?_
  exact a_end 10 (by decide) f0 h (by omega)
theorem fault_fine {x : ItemV} (f0 : Few src st0 100) (hx : x.e.length ≤ st0.at_) (hn : 2 * (src.length - st0.at_) + 3 ≤ n) : Fine (fault src n x st0) (fun _ st' => Go src 1 (-70) st0 st') := by
  unfold fault
  refine (a_take 55 (by decide) f0 (Acc.start f0 hx) (by omega)).bind fun b st1 h => ?_
  have rest : ∀ (x : ItemV) st', Acc src st0 6 x.e.length st' → Fine ((do must src 10; return x : M ItemV) st') (fun _ st' => Go src 1 (-70) st0 st') := fun x st' h => a_end 10 (by decide) f0 h (by omega)
  refine Fine.iteBind (Q := fun (x' : ItemV) st' => Acc src st0 6 x'.e.length st') (fun _ => Fine.pure (h.less (by omega) (Nat.le_refl _))) (fun _ => ?_) rest
  refine (a_take 56 (by decide) f0 h (by omega)).bind fun b st2 h => ?_
  refine Fine.iteM (fun _ => Fine.pure (h.less (by omega) (Nat.le_refl _))) (fun _ => ?_)
  refine (a_must 57 (by decide) f0 h (by omega)).bind fun _ st3 h => ?_
  refine (a_ref f0 h (by omega) hn).bind fun f st1 h => ?_
  exact (a_number (x := { x with how := 1, to_ := f }) 58 (by decide) f0 h (by omega) hn).imp fun _ _ g => g.less (by omega) (Nat.le_refl _)
theorem runs_fine {x : ItemV} (f0 : Few src st0 100) (hx : x.e.length ≤ st0.at_) (hn : 2 * (src.length - st0.at_) + 3 ≤ n) : Fine (runs src n x st0) (fun _ st' => Go src 1 (-70) st0 st') := by
  unfold runs
  refine (a_ref f0 (Acc.start f0 hx) (by omega) hn).bind fun f st1 h => ?_
  refine (a_more (x := { x with name := f }) f0 h (by omega) hn).bind fun x st2 h => ?_
  exact a_end 10 (by decide) f0 h (by omega)
theorem idle_fine {x : ItemV} (f0 : Few src st0 100) (hx : x.e.length ≤ st0.at_) (hn : 2 * (src.length - st0.at_) + 3 ≤ n) : Fine (idle src n x st0) (fun _ st' => Go src 1 (-70) st0 st') := by
  unfold idle
  refine (a_more f0 (Acc.start f0 hx) (by omega) hn).bind fun x st2 h => ?_
  exact a_end 10 (by decide) f0 h (by omega)
theorem needs_fine {x : ItemV} (f0 : Few src st0 100) (hx : x.e.length ≤ st0.at_) (hn : 2 * (src.length - st0.at_) + 3 ≤ n) : Fine (needs src n x st0) (fun _ st' => Go src 1 (-70) st0 st') := by
  unfold needs
  refine (a_ref f0 (Acc.start f0 hx) (by omega) hn).bind fun f st1 h => ?_
  refine (a_more (x := { x with name := f }) f0 h (by omega) hn).bind fun x st2 h => ?_
  refine (a_number 72 (by decide) f0 h (by omega) hn).bind fun x st3 h => ?_
  exact a_end 10 (by decide) f0 h (by omega)
end

theorem begin_fine {st : St} (kind : Int) (hf : Few src st 0) (ht : st.at_ < st.to_) : Fine (begin_ src kind st) (fun k st' => k = st.items.length ∧ st'.items = st.items ++ [{ kind := kind, pos := st.at_ }] ∧ Go src 1 (-100) st st') := by
  unfold begin_
  refine Fine.ite (fun _ => ?_) fun hl => ?_
  · refine (next_fine (st := { st with items := st.items ++ [{ kind := kind, pos := st.at_ }] }) ⟨hf.inv.ato, hf.inv.tol, hf.inv.tok⟩ ht).bind fun _ st1 ⟨g, e1, e2⟩ => ?_
    have a1 := g.fwd
    have a2 := g.pot
    have a3 : st1.items.length = st.items.length + 1 := by rw [e1]; simp
    have a4 := g.nod
    simp only at a1 a2 a4
    exact Fine.pure ⟨rfl, e1, ⟨a1, a2, a4, by omega, g.opn, g.inv⟩⟩
  · have := hf.items
    have := hf.len
    have := hf.inv.ato
    have := hf.inv.tol
    unfold most at hl
    omega
theorem begin_row {st : St} (kind : Int) (hf : Few src st 0) (ht : st.at_ < st.to_) {β : Type} {f : Nat → ItemV → M β} {R : β → St → Prop}
    (k : ∀ st', Go src 1 (-100) st st' → Fine (f st.items.length { kind := kind, pos := st.at_ } st') R) : Fine ((do let k ← begin_ src kind; let x ← row k; f k x : M β) st) R := by
  refine (begin_fine kind hf ht).bind fun n st1 ⟨e1, e2, g⟩ => ?_
  subst e1
  refine Fine.bind (m := row st.items.length) (Q := fun x st' => x = { kind := kind, pos := (st.at_ : Int) } ∧ st' = st1) ?_ fun x st2 ⟨e3, e4⟩ => ?_
  · refine ⟨?_, rfl⟩
    show st1.items.getD st.items.length {} = _
    rw [e2]; simp
  · subst e3; subst e4; exact k _ g
theorem end_fine {st : St} (k : Nat) (x : ItemV) {Q : Int → St → Prop} (h : Q k { st with items := st.items.set k x }) : Fine (end_ k x st) Q := h
theorem Go.set {c : Nat} {l : Int} {a b : St} (h : Go src c l a b) (k : Nat) (x : ItemV) : Go src c l a { b with items := b.items.set k x } :=
  ⟨h.fwd, h.pot, h.nod, by have := h.itm; simpa using this, h.opn, ⟨h.inv.ato, h.inv.tol, h.inv.tok⟩⟩

/-- The keywords of a kind of block are asked for in turn. -/
theorem declOn_fine {rd : Rd → ItemV → M ItemV} {st0 : St} (f0 : Few src st0 200)
    (hr : ∀ (r : Rd) (x : ItemV) (st : St), Go src 1 (-80) st0 st → x.e.length ≤ st.at_ → Fine (rd r x st) (fun _ st' => Go src 0 0 st st')) :
    ∀ (ds : List (Int × Int × Rd)) (k : Int) (st : St), Go src 0 k st0 st → k + ds.length ≤ 20 → (∀ d ∈ ds, d.1 ≠ 0) → Fine (declOn src rd ds st) (fun _ st' => Go src 1 (-80) st0 st')
  | [], _, _, _, _, _ => fail_fine
  | (w, kd, r) :: ds, k, st, g, hk, hd => by
    rw [declOn]
    have hk' : k + (ds.length + 1 : Nat) ≤ 20 := hk
    refine (see_fine w (g.few f0 (by omega))).bind fun b st1 ⟨h1, h2, h3⟩ => ?_
    cases b with
    | true =>
      refine Fine.iteM (fun _ => ?_) (fun h => absurd rfl h)
      obtain ⟨e, rfl⟩ := h1 rfl
      refine begin_row kd (g.few f0 (by omega)) (g.inv.tok (by rw [e]; exact hd _ (List.mem_cons_self ..))) fun st2 g2 => ?_
      have g02 := (g.trans g2).weak (d := 1) (l := -80) (by omega) (by omega)
      refine (hr r _ st2 g02 (Nat.zero_le _)).bind fun x st3 g3 => ?_
      exact end_fine _ _ (((g02.trans g3).weak (by omega) (by omega)).set _ _)
    | false =>
      refine Fine.iteM (fun h => Bool.noConfusion h) (fun _ => ?_)
      exact declOn_fine f0 hr ds (k + 1) st1 ((g.trans h3).weak (by omega) (by omega)) (by omega) (fun d h => hd d (List.mem_cons_of_mem _ h))

theorem decls_length (u : Rule) : (decls u).length ≤ 14 := by cases u <;> decide
theorem decls_words (u : Rule) : ∀ d ∈ decls u, d.1 ≠ 0 := by cases u <;> decide

theorem block_all_fine : ∀ n : Nat,
    (∀ (u : Rule) (st : St), Few src st 300 → 4 * (src.length - st.at_) + 1 ≤ n → Fine (block src n u st) (fun _ st' => Go src 1 (-60) st st')) ∧
    (∀ (u : Rule) (l : List Int) (st : St), Few src st 300 → l.length ≤ st.at_ → 4 * (src.length - st.at_) + 4 ≤ n → Fine (blockOn src n u l st) (fun _ st' => Go src 0 1 st st')) ∧
    (∀ (u : Rule) (st : St), Few src st (240 + (if u = .own then 1 else 0)) → 4 * (src.length - st.at_) + 2 + (if u = .own then 1 else 0) ≤ n → Fine (one src n u st) (fun _ st' => Go src 1 (-50 - (if u = .own then 0 else 5)) st st')) ∧
    (∀ (st : St), Few src st 220 → st.tok.kind = 37 → 4 * (src.length - st.at_) + 2 ≤ n → Fine (group src n st) (fun _ st' => Go src 1 (-60) st st')) ∧
    (∀ (u : Rule) (st : St), Few src st 220 → 4 * (src.length - st.at_) + 1 ≤ n → Fine (inner src n u st) (fun r st' => if r = none then Go src 0 4 st st' else Go src 1 (-60) st st')) ∧
    (∀ (rd : Rd) (x : ItemV) (st : St), Few src st 320 → x.e.length ≤ st.at_ → 4 * (src.length - st.at_) + 5 ≤ n → Fine (read src n rd x st) (fun _ st' => Go src 0 0 st st'))
  | 0 => ⟨fun _ _ _ h => by omega, fun _ _ _ _ _ h => by omega, fun _ _ _ h => by omega, fun _ _ _ h => by omega, fun _ _ _ h => by omega, fun _ _ _ _ _ h => by omega⟩
  | n + 1 => by
    obtain ⟨hb, hbo, ho, hg, hi, hr⟩ := block_all_fine n
    refine ⟨fun u st hf hn => ?_, fun u l st hf hl hn => ?_, fun u st hf hn => ?_, fun st hf hk hn => ?_, fun u st hf hn => ?_, fun rd x st hf hx hn => ?_⟩
    · rw [block]
      refine (open_in 4 (by decide) (hf.weak (by omega))).bind fun _ st1 i => ?_
      have := i.go.fwd
      have := i.go.inv.ato
      have := i.go.inv.tol
      simp only at *
      refine (hbo u [] st1 (i.few hf (by omega)) (Nat.zero_le _) (by omega)).bind fun l st2 g2 => ?_
      have j := i.on g2
      refine (shut_in j 5 (by decide) (j.few hf (by omega))).bind fun _ st3 g3 => Fine.pure (g3.weak (by omega) (by omega))
    · rw [blockOn]
      refine (see_fine 5 (hf.weak (by omega))).bind fun b st1 ⟨h1, h2, h3⟩ => ?_
      cases b with
      | true =>
        refine Fine.iteM (fun _ => Fine.pure h3) (fun h => absurd rfl h)
      | false =>
        refine Fine.iteM (fun h => Bool.noConfusion h) (fun _ => ?_)
        have := h3.fwd
        refine (ho u st1 (h3.few hf (by split <;> omega)) (by split <;> omega)).bind fun k st2 g2 => ?_
        have g2 := g2.weak (l := -50) (Nat.le_refl _) (by split <;> omega)
        have g := h3.trans g2
        have := g2.fwd
        have := g2.inv.ato
        have := g2.inv.tol
        have := hf.len
        refine Fine.iteM (fun _ => ?_) (fun hm => by unfold most at hm; omega)
        exact (hbo u _ st2 (g.few hf (by omega)) (by simp; omega) (by omega)).imp fun _ _ g3 => (g.trans g3).weak (by omega) (by omega)
    · rw [one]
      refine Fine.iteM (fun hu => ?_) (fun hu => ?_)
      · rw [if_pos hu] at hn hf
        refine (see_fine 37 (hf.weak (by omega))).bind fun b st1 ⟨h1, h2, h3⟩ => ?_
        cases b with
        | true =>
          refine Fine.iteM (fun _ => ?_) (fun h => absurd rfl h)
          obtain ⟨e, rfl⟩ := h1 rfl
          exact (hg st1 (hf.weak (by omega)) e (by omega)).imp fun _ _ g => g.weak (by omega) (by rw [if_pos hu]; omega)
        | false =>
          refine Fine.iteM (fun h => Bool.noConfusion h) (fun _ => ?_)
          have := h3.fwd
          exact (ho .item st1 (h3.few hf (by simp)) (by rw [if_neg (show ¬ Rule.item = Rule.own by decide)]; omega)).imp fun _ _ g => (h3.trans g).weak (by omega) (by rw [if_pos hu, if_neg (show ¬ Rule.item = Rule.own by decide)]; omega)
      · rw [if_neg hu] at hf hn
        refine (hi u st (hf.weak (by omega)) (by omega)).bind fun r st1 h => ?_
        cases r with
        | some k => exact Fine.pure ((show Go src 1 (-60) st st1 from h).weak (by omega) (by rw [if_neg hu]; omega))
        | none =>
          have g : Go src 0 4 st st1 := h
          refine (declOn_fine (hf.weak (by omega)) (fun rd x st2 g2 hx => hr rd x st2 (g2.few hf (by omega)) hx (by have := g2.fwd; have := g2.inv.ato; have := g2.inv.tol; omega)) (decls u) 4 st1 g (by have := decls_length u; omega) (decls_words u)).imp fun _ _ g3 => g3.weak (by omega) (by rw [if_neg hu]; omega)
    · rw [group]
      refine begin_row 5 (hf.weak (by omega)) (hf.inv.tok (by rw [hk]; decide)) fun st1 g1 => ?_
      refine (word_fine g1.inv).bind fun f st2 g2 => ?_
      have g := g1.trans g2
      refine (open_in 8 (by decide) (g.few hf (by omega))).bind fun _ st3 i => ?_
      have := g.fwd
      have := i.go.fwd
      have := i.go.inv.ato
      have := i.go.inv.tol
      simp only at *
      refine (groupOn_fine n _ st3 (i.few (g.few hf (n := 200) (by omega)) (by omega)) (Nat.zero_le _) (by omega)).bind fun x st4 g4 => ?_
      have j := i.on g4
      refine (shut_in j 9 (by decide) (j.few (g.few hf (n := 200) (by omega)) (by omega))).bind fun _ st5 g5 => ?_
      have g6 := g.trans g5
      have := g6.fwd
      refine (hb .item st5 (g6.few hf (by omega)) (by omega)).bind fun l st6 g7 => ?_
      exact end_fine _ _ (((g6.trans g7).weak (by omega) (by omega)).set _ _)
    · rw [inner]
      have some' : ∀ {k : Int} {st' : St}, Go src 1 (-60) st st' → Fine ((Pure.pure (some k) : M (Option Int)) st') (fun r st' => if r = none then Go src 0 4 st st' else Go src 1 (-60) st st') := fun h => h
      refine (see_fine 31 (hf.weak (by omega))).bind fun b st1 ⟨h1, h2, h3⟩ => ?_
      refine Fine.iteM (fun hb' => ?_) (fun _ => ?_)
      · obtain ⟨e, rfl⟩ := h1 hb'
        have hlt := hf.inv.tok (by rw [e]; decide)
        have := hf.inv.tol
        refine begin_row 1 (hf.weak (by omega)) hlt fun st2 g => ?_
        refine (word_fine g.inv).bind fun f st3 g2 => ?_
        have g := g.trans g2
        refine (must_fine 13 (by decide) (g.few hf (by omega))).bind fun _ st4 g2 => ?_
        have g := g.trans g2
        have := g.fwd
        refine ((expr_fine n).1 0 st4 (by omega) (g.few hf (by omega)) (by omega)).bind fun a st5 g2 => ?_
        have g := g.trans g2
        refine (must_fine 10 (by decide) (g.few hf (by omega))).bind fun _ st6 g2 => ?_
        have g := g.trans g2
        refine Fine.bind (end_fine (Q := fun _ st' => Go src 1 (-60) st1 st') _ _ ((g.weak (by omega) (by omega)).set _ _)) fun k st7 g => some' g
      have g1 := h3
      have f1 := g1.few hf (n := 215) (by omega)
      refine (see_fine 36 (f1.weak (by omega))).bind fun b st2 ⟨h1, h2, h3⟩ => ?_
      refine Fine.iteM (fun hb' => ?_) (fun _ => ?_)
      · obtain ⟨e, rfl⟩ := h1 hb'
        have hlt := f1.inv.tok (by rw [e]; decide)
        have := f1.inv.tol
        have := g1.fwd
        refine begin_row 4 (f1.weak (by omega)) hlt fun st2 g => ?_
        have g := g1.trans g
        have := g.fwd
        refine ((expr_fine n).1 0 st2 (by omega) (g.few hf (by omega)) (by omega)).bind fun a st5 g2 => ?_
        have g := g.trans g2
        refine (must_fine 10 (by decide) (g.few hf (by omega))).bind fun _ st6 g2 => ?_
        have g := g.trans g2
        refine Fine.bind (end_fine (Q := fun _ st' => Go src 1 (-60) st st') _ _ ((g.weak (by omega) (by omega)).set _ _)) fun k st7 g => some' g
      have g1 := g1.trans h3
      have f1 := g1.few hf (n := 215) (by omega)
      refine (see_fine 32 (f1.weak (by omega))).bind fun b st3 ⟨h1, h2, h3⟩ => ?_
      refine Fine.iteM (fun hb' => ?_) (fun _ => ?_)
      · obtain ⟨e, rfl⟩ := h1 hb'
        have hlt := f1.inv.tok (by rw [e]; decide)
        have := f1.inv.tol
        have := g1.fwd
        refine begin_row 2 (f1.weak (by omega)) hlt fun st2 g => ?_
        have g := g1.trans g
        refine (word_fine g.inv).bind fun f st3 g2 => ?_
        have g := g.trans g2
        refine (must_fine 33 (by decide) (g.few hf (by omega))).bind fun _ st4 g2 => ?_
        have g := g.trans g2
        have := g.fwd
        refine (more_fine (g.few hf (by omega)) (Nat.zero_le _) (by omega)).bind fun x st5 ⟨g2, _⟩ => ?_
        have g := g.trans g2
        have := g2.fwd
        refine (must_fine 12 (by decide) (g.few hf (by omega))).bind fun _ st6 g2 => ?_
        have g := g.trans g2
        have := g2.fwd
        refine (more_fine (g.few hf (by omega)) (by omega) (by omega)).bind fun x st7 ⟨g2, _⟩ => ?_
        have g := g.trans g2
        have := g2.fwd
        refine (hb u st7 (g.few hf (by omega)) (by omega)).bind fun l st8 g2 => ?_
        have g := g.trans g2
        refine Fine.bind (end_fine (Q := fun _ st' => Go src 1 (-60) st st') _ _ ((g.weak (by omega) (by omega)).set _ _)) fun k st7 g => some' g
      have g1 := g1.trans h3
      have f1 := g1.few hf (n := 215) (by omega)
      refine (see_fine 34 (f1.weak (by omega))).bind fun b st4 ⟨h1, h2, h3⟩ => ?_
      refine Fine.iteM (fun hb' => ?_) (fun _ => ?_)
      · obtain ⟨e, rfl⟩ := h1 hb'
        have hlt := f1.inv.tok (by rw [e]; decide)
        have := f1.inv.tol
        have := g1.fwd
        refine begin_row 3 (f1.weak (by omega)) hlt fun st2 g => ?_
        have g := g1.trans g
        have := g.fwd
        refine ((expr_fine n).1 0 st2 (by omega) (g.few hf (by omega)) (by omega)).bind fun a st5 g2 => ?_
        have g := g.trans g2
        have := g2.fwd
        refine (hb u st5 (g.few hf (by omega)) (by omega)).bind fun l st8 g2 => ?_
        have g := g.trans g2
        have := g2.fwd
        refine (take_light 35 (by decide) (g.few hf (by omega))).bind fun b st9 g2 => ?_
        have g := g.trans g2
        have := g2.fwd
        refine Fine.iteM (fun _ => ?_) (fun _ => ?_)
        · refine (hb u st9 (g.few hf (by omega)) (by omega)).bind fun l st8 g2 => ?_
          have g := g.trans g2
          refine Fine.bind (end_fine (Q := fun _ st' => Go src 1 (-60) st st') _ _ ((g.weak (by omega) (by omega)).set _ _)) fun k st7 g => some' g
        · refine Fine.bind (end_fine (Q := fun _ st' => Go src 1 (-60) st st') _ _ ((g.weak (by omega) (by omega)).set _ _)) fun k st7 g => some' g
      exact Fine.pure ((g1.trans h3).weak (by omega) (by omega))
    · have f0 : Few src st 100 := hf.weak (by omega)
      have hn' : 2 * (src.length - st.at_) + 3 ≤ n := by omega
      have W : ∀ {r : Res ItemV}, Fine r (fun _ st' => Go src 1 (-70) st st') → Fine r (fun _ st' => Go src 0 0 st st') := fun h => h.imp fun _ _ g => g.weak (by omega) (by omega)
      cases rd with
      | use => exact W (use_fine f0 hx hn')
      | ram => exact W (ram_fine f0 hx hn')
      | region => exact W (region_fine f0 hx hn')
      | channel => exact W (channel_fine f0 hx hn')
      | irq => exact W (irq_fine f0 hx hn')
      | pick => exact W (pick_fine f0 hx hn')
      | queue => exact W (queue_fine f0 hx hn')
      | sample => exact W (sample_fine f0 hx hn')
      | forbid => exact W (forbid_fine f0 hx hn')
      | mapping => exact W (mapping_fine f0 hx hn')
      | fault => exact W (fault_fine f0 hx hn')
      | runs => exact W (runs_fine f0 hx hn')
      | idle => exact W (idle_fine f0 hx hn')
      | needs => exact W (needs_fine f0 hx hn')
      | device =>
        refine (a_ref f0 (Acc.start f0 hx) (by omega) hn').bind fun f st1 h => ?_
        refine (a_number (x := { x with name := f }) 42 (by decide) f0 h (by omega) hn').bind fun x st2 h => ?_
        refine (a_number 40 (by decide) f0 h (by omega) hn').bind fun x st2 h => ?_
        refine (a_flag 43 512 (by decide) f0 h (by omega)).bind fun r st3 h => ?_
        obtain ⟨b, x⟩ := r
        have := h.go.fwd
        refine Fine.iteM (fun _ => ?_) (fun _ => ?_)
        · exact (hb .reach st3 (h.go.few hf (by omega)) (by omega)).bind fun l st4 g => Fine.pure ((h.go.trans g).weak (by omega) (by omega))
        · exact W (a_end 10 (by decide) f0 h (by omega))
      | subject =>
        refine (a_ref f0 (Acc.start f0 hx) (by omega) hn').bind fun f st1 h => ?_
        refine (a_number (x := { x with name := f }) 49 (by decide) f0 h (by omega) hn').bind fun x st2 h => ?_
        refine (a_flag 50 128 (by decide) f0 h (by omega)).bind fun r st3 h => ?_
        have := h.go.fwd
        exact (hb .part st3 (h.go.few hf (by omega)) (by omega)).bind fun l st4 g => Fine.pure ((h.go.trans g).weak (by omega) (by omega))
      | plan =>
        refine (a_ref f0 (Acc.start f0 hx) (by omega) hn').bind fun f st1 h => ?_
        refine (a_number (x := { x with name := f }) 67 (by decide) f0 h (by omega) hn').bind fun x st2 h => ?_
        have := h.go.fwd
        exact (hb .lane st2 (h.go.few hf (by omega)) (by omega)).bind fun l st4 g => Fine.pure ((h.go.trans g).weak (by omega) (by omega))
      | cpu =>
        refine (a_more f0 (Acc.start f0 hx) (by omega) hn').bind fun x st1 h => ?_
        refine (a_flag 70 1024 (by decide) f0 h (by omega)).bind fun r st3 h => ?_
        obtain ⟨b, x⟩ := r
        have := h.go.fwd
        exact Fine.iteBind (fun _ => hb .need st3 (h.go.few hf (by omega)) (by omega)) (fun _ => hb .run st3 (h.go.few hf (by omega)) (by omega)) fun l st4 g => Fine.pure ((h.go.trans g).weak (by omega) (by omega))

theorem parseM_fine {n : Nat} (hl : src.length ≤ 1048576) (hn : 4 * src.length + 1 ≤ n) : Fine (parseM src n {}) (fun _ _ => True) := by
  unfold parseM
  have i0 : Inv src ({} : St) := ⟨Nat.le_refl _, Nat.zero_le _, fun h => absurd rfl h⟩
  refine (next_any i0).bind fun _ st1 ⟨h1, h2, h3, h4, h5, h6⟩ => ?_
  generalize hs : ({ st1 with pos := (st1.at_ : Int) } : St) = st2
  have f2 : Few src st2 400 := by
    subst hs
    exact ⟨by show ((st1.want.length : Nat) : Int) + 400 ≤ 100 * st1.at_ + 1000; rw [h2]; simp; omega, by show st1.nodes.length ≤ _; rw [h6]; exact Nat.zero_le _, by show st1.items.length ≤ _; rw [h5]; exact Nat.zero_le _, ⟨h4.ato, h4.tol, h4.tok⟩, hl⟩
  show Fine ((do
    must src 30
    let f ← word src
    (fun st => (do
      let top ← block src n .own
      (fun st => if st.at_ < src.length then fail src st else .ok { pos := st.pos, name := st.tname, items := st.items, nodes := st.nodes, top := top } st : M TreeV) : M TreeV) { st with tname := f } : M TreeV) : M TreeV) st2) _
  refine (must_fine 30 (by decide) (f2.weak (by omega))).bind fun _ st3 g => ?_
  refine (word_fine g.inv).bind fun f st4 g2 => ?_
  have g := g.trans g2
  have f4 := g.few f2 (n := 300) (by omega)
  refine Fine.bind ((block_all_fine n).1 .own { st4 with tname := f } ⟨f4.want, f4.nodes, f4.items, ⟨f4.inv.ato, f4.inv.tol, f4.inv.tok⟩, hl⟩ (by show 4 * (src.length - st4.at_) + 1 ≤ n; omega)) fun top st5 g5 => ?_
  exact Fine.ite (fun _ => fail_fine) (fun _ => trivial)

/-- So much is enough. -/
theorem parseN_fine {n : Nat} (hn : 4 * src.length + 1 ≤ n) : parseN src n ≠ .fuel := by
  unfold parseN
  by_cases hl : 1048576 < src.length
  · rw [if_pos hl]; exact fun h => by cases h
  · rw [if_neg hl]
    have h := parseM_fine (src := src) (n := n) (by omega) hn
    revert h
    cases parseM src n {} with
    | ok t st => exact fun _ h => by cases h
    | bad e => cases e with
      | fuel => exact fun h => h.elim
      | stop a w => exact fun _ h => by cases h
end
end Bk
namespace Go.Proofs.YtkaeceedofmhbaaGreatDoor
open Go.RowKit Bk

section
variable {X : Nat → Prop} {H : Frozen} {r : Nat} {sv : Value} {src : Bytes} {st : St} {w w1 : World}

/-- A piece of a text. -/
theorem txt_sub {b off cap p n : Nat} (hn : p + n ≤ src.length) (h1 : src.length ≤ cap) (h2 : cap ≤ maxLen) (hb : b < w.heap.size) (hbs : ∀ i (h : i < src.length), w.cell? ⟨b, off + i, none⟩ = some (.int .u8 (src[i].toNat : Int))) :
    Txt (fun k => k < w.heap.size) w (.slice (some ⟨b, off + p, none⟩) n (cap - p)) ((src.drop p).take n) := by
  have hl : ((src.drop p).take n).length = n := by simp; omega
  refine ⟨_, cap - p, by rw [hl], by rw [hl]; omega, by omega, fun _ => ⟨b, off + p, rfl, hb, fun i hi => ?_⟩⟩
  rw [hl] at hi
  rw [show off + p + i = off + (p + i) by omega, hbs (p + i) (by omega)]
  simp

/-- What Tokens hands back: v, bd, er. -/
def TokRes (n : Nat) (w w' : World) (tk : Except Nat (List Tok)) (v : Value) (bd er : Int) : Prop :=
  match tk with
  | .ok l => bd = 0 ∧ er = 0 ∧ w'.ownsRow w.heap.size 49 5 v l.length (l.flatMap tokCells)
  | .error b => v = .slice none 0 0 ∧ bd = b ∧ er = 60 ∧ b ≤ n

/-- Its lexemes. -/
theorem tokens_sub {b off cap p n : Nat} (hn : p + n ≤ src.length) (h1 : src.length ≤ cap) (h2 : cap ≤ maxLen) (hb : b < w.heap.size) (hbs : ∀ i (h : i < src.length), w.cell? ⟨b, off + i, none⟩ = some (.int .u8 (src[i].toNat : Int)))
    (hg : Glob w) (hlow : low ≤ w.heap.size) (hs : src.length ≤ 1048576) :
    Calls Tryz.prog 15 #[.slice (some ⟨b, off + p, none⟩) n (cap - p)] w (fun e w' => ∃ v bd er, e = .returned (.tuple #[v, .int .i64 bd, .int .i64 er]) ∧ Below w.heap.size w w' ∧ TokRes n w w' (tokens (n + 1) 0 ((src.drop p).take n)) v bd er) := by
  have hl : ((src.drop p).take n).length = n := by simp; omega
  refine (tokens_c w (n + 1) (txt_sub hn h1 h2 hb hbs) (by omega) hg (fun _ h => h) (fun k hk => by omega) (by omega)).mono ?_
  rintro e w' ⟨hf, hp⟩
  have hbel : Below w.heap.size w w' := ⟨hf.os, hf.tape, hf.output, hf.size, hf.block⟩
  rw [hl] at hp
  cases hR : tokens (n + 1) 0 ((src.drop p).take n) with
  | ok l => rw [hR] at hp; obtain ⟨v, rfl, ho⟩ := hp; exact ⟨v, 0, 0, rfl, hbel, rfl, rfl, ho⟩
  | error b => rw [hR] at hp; obtain ⟨rfl, ho⟩ := hp; exact ⟨_, b, 60, rfl, hbel, rfl, rfl, rfl, ho⟩

theorem own_cells {base E size n : Nat} {v : Value} {xs : List Value} (h : w.ownsRow base E size v n xs) (hn : 0 < n) : ∃ g cap, v = .slice (some ⟨g, 0, none⟩) n cap ∧ g < w.heap.size ∧ base ≤ g ∧ ∀ i, i < xs.length → w.cell? ⟨g, i, none⟩ = xs[i]? := by
  obtain ⟨hlen, h2⟩ := h
  rcases h2 with ⟨_, h0⟩ | ⟨g, cap, cur, e, hb, hg, _, _, _, hcur⟩
  · omega
  · refine ⟨g, cap, e, lt_of_block hg, hb, fun i hi => ?_⟩
    have e2 : (cur.toList.take (n * size))[i]? = xs[i]? := by rw [hcur]
    rw [List.getElem?_take_of_lt (by omega)] at e2
    rw [← e2, World.cell?]
    simp [hg]

def pairOf (r : Except Nat (List Tok)) : Bool := match r with | .ok [t] => t.end_ == 2 | _ => false

set_option maxRecDepth 100000 in
set_option maxHeartbeats 1000000 in
theorem reach1_sign (h : RdOK X H w r sv src st) (hl : st.at_ < src.length) (hc : wordCls src[st.at_] = false) (hq : src[st.at_] ≠ 34) :
    Calls Tryz.prog 45 #[.pointer (some ⟨r, 0, none⟩)] w fun e w' => e = .returned (.int .i64 ((st.at_ + lexLen (src.drop st.at_) : Nat) : Int)) ∧ Below w.heap.size w w' := by
  obtain ⟨a, cap, hsv, hc1, hc2, hshow⟩ := h.txt
  obtain ⟨b, off, rfl, hx, hbs⟩ := hshow (fun e => by rw [e] at hl; simp at hl)
  have c0 := h.c0
  have c1 := h.c1
  rw [hsv] at c0
  have cb := hbs st.at_ hl
  have hslen := h.slen
  have RD0 := Lib.hid h
  have HWB := Lib.hid (fun V => swordByte_c src[st.at_] V)
  obtain ⟨T, hT⟩ : ∃ T, T = st.at_ + lexLen (src.drop st.at_) := ⟨_, rfl⟩
  rw [← hT]
  rw [hc] at HWB
  have HT1 := Lib.hid (fun h3 : ¬ st.at_ + 1 < src.length => (show T = st.at_ + 1 by rw [hT, lexLen_last hl hc hq h3]))
  have HT2 := Lib.hid (fun h3 : st.at_ + 1 < src.length => (show T = st.at_ + if pair src[st.at_] src[st.at_ + 1] then 2 else 1 by rw [hT, lexLen_sign hl hc hq h3]))
  have HTK := Lib.hid (fun h3 : st.at_ + 1 < src.length => (show (src.drop st.at_).take 2 = [src[st.at_], src[st.at_ + 1]] by rw [drop_cons hl, drop_cons h3]; rfl))
  have d34 : ((src[st.at_].toNat : Int) == 34) = false := by
    rw [beq_eq_false_iff_ne]; intro e; exact hq (UInt8.toNat_inj.1 (by show src[st.at_].toNat = 34; omega))
  obtain ⟨ch, hch⟩ : ∃ ch : Nat, ch = src[st.at_].toNat := ⟨_, rfl⟩
  rw [← hch] at HWB cb d34
  have hbl := RD0.out.xlt b hx
  have HX := Lib.hid hx
  have HBS := Lib.hid hbs
  have hpl := hl
  obtain ⟨p, hp⟩ : ∃ p, p = st.at_ := ⟨_, rfl⟩
  have i0 : (0 : Int) ≤ (st.at_ : Int) := Int.natCast_nonneg _
  have i1 : (st.at_ : Int) < (src.length : Int) := by omega
  clear h hx hshow hT hsv hbs hc hch hq
  by_cases h3 : st.at_ + 1 < src.length
  · have d3 : decide ((st.at_ : Int) + 1 < (src.length : Int)) = true := by simp; omega
    have HTT := Lib.hid (HT2.out h3)
    have HTK2 := Lib.hid (HTK.out h3)
    have e2 : IntKind.i64.wrap ((st.at_ : Int) + 1 + 1) = (st.at_ : Int) + 1 + 1 := IntWalk.i64_in _ ⟨by omega, by omega⟩
    have hsl : ∀ V, (Instr.slice 34 (.slice (some ⟨b, off, none⟩) src.length cap) (some (.int .i64 (st.at_ : Int))) (some (.int .i64 ((st.at_ : Int) + 1 + 1))) none).run Tryz.prog V = .ok (.slice (some ⟨b, off + st.at_, none⟩) 2 (cap - st.at_)) V := fun V => by
      have := slice_run (bb := b) (off := off) (n := src.length) (cap := cap) (p := st.at_) (j := st.at_ + 1 + 1) (by omega) (by omega) (by omega) V
      rw [show st.at_ + 1 + 1 - st.at_ = 2 by omega] at this
      exact this
    have HCALL := Lib.hid (fun V (hV : Below w.heap.size w V) => tokens_sub (w := V) (src := src) (b := b) (off := off) (cap := cap) (p := st.at_) (n := 2) (by omega) hc1 hc2 (Nat.lt_of_lt_of_le hbl hV.size) (fun i hi => (World.cell?_of_block (w := w) (hV.block b hbl)).trans (HBS.out i hi)) (RD0.out.below hV).glob (RD0.out.below hV).low hslen)
    rw [HTK2.out] at HCALL
    clear HT1 HT2 HTK
    go_enter Tryz.func45, Tryz.ntmps45
    go_wp2_with fail
    go_quiet (fail)
    go_wp2_with fail
    refine (HWB.out _).mono ?_
    rintro e w1 ⟨rfl, rfl⟩
    obtain ⟨W, hW⟩ : ∃ W, W = w.drewN nq := ⟨_, rfl⟩
    rw [← hW]
    have HBW := Lib.hid (show Below w.heap.size w W by rw [hW]; exact ⟨rfl, rfl, rfl, Nat.le_refl _, fun _ _ => rfl⟩)
    have d0 : W.cell? ⟨r, 0, none⟩ = some (.slice (some ⟨b, off, none⟩) src.length cap) := by rw [hW]; exact c0
    have d1 : W.cell? ⟨r, 1, none⟩ = some (.int .i64 st.at_) := by rw [hW]; exact c1
    clear hW c0 c1 cb
    go_wp2_with fail
    obtain ⟨pr, hpr⟩ : ∃ pr, pr = pair src[st.at_] src[st.at_ + 1] := ⟨_, rfl⟩
    rw [← hpr] at HTT
    have HPR := Lib.hid hpr
    clear hpr
    obtain ⟨tk, htk⟩ : ∃ tk, tk = tokens 3 0 [src[st.at_], src[st.at_ + 1]] := ⟨_, rfl⟩
    have HPR2 := Lib.hid (show pr = pairOf tk by rw [HPR.out, htk]; rfl)
    have HC2 := Lib.hid (HCALL.out W.drew HBW.out.drew)
    rw [show (2 + 1 : Nat) = 3 from rfl, ← htk] at HC2
    have HRW := Lib.hid (Nat.lt_of_lt_of_le RD0.out.lt HBW.out.size)
    clear htk HPR HCALL
    go_region_held3 (fun w' => w'.cell? ⟨r, 0, none⟩ = some (.slice (some ⟨b, off, none⟩) src.length cap) ∧ w'.cell? ⟨r, 1, none⟩ = some (.int .i64 st.at_))
      (first
        | go_keep
        | (go_split_ands
           refine ⟨?_, ?_⟩
           · ((rw [World.cell?_of_block (w := W) (hb3.block r HRW.out)]); assumption)
           · ((rw [World.cell?_of_block (w := W) (hb3.block r HRW.out)]); assumption)))
      (first | (go_at_call 15; refine HC2.out.mono ?_; rintro e w3 ⟨v, bd, er, rfl, hb3, hres⟩))
    have HB3 := Lib.hid (HBW.out.trans (Below.trans (b := W.drew) ⟨rfl, rfl, rfl, Nat.le_refl _, fun _ _ => rfl⟩ (hb3.mono HBW.out.size)))
    have hp2 := HPR2.out
    rename_i hkeep
    clear hb3 HC2 hkeep
    cases tk with
    | error bb =>
      obtain ⟨rfl, rfl, rfl, _⟩ := hres
      have HTE := Lib.hid (show T = st.at_ + 1 by rw [HTT.out, hp2]; rfl)
      clear hp2
      go_wp2_with fail
      go_ret
      exact ⟨by rw [HTE.out]; rfl, HB3.out⟩
    | ok l =>
      obtain ⟨rfl, rfl, hown⟩ := hres
      cases l with
      | nil =>
        obtain ⟨va, vc, hv⟩ : ∃ va vc, v = .slice va 0 vc := by
          rcases hown.2 with ⟨e, _⟩ | ⟨g, cap, cur, e, _⟩
          · exact ⟨_, _, e⟩
          · exact ⟨_, _, e⟩
        subst hv
        have HTE := Lib.hid (show T = st.at_ + 1 by rw [HTT.out, hp2]; rfl)
        clear hp2 hown
        go_wp2_with fail
        go_ret
        exact ⟨by rw [HTE.out]; rfl, HB3.out⟩
      | cons t l =>
        obtain ⟨g, vc, rfl, hgl, _, hcells⟩ := own_cells hown (by simp)
        cases l with
        | nil =>
          have c4 : w3.cell? ⟨g, 4, none⟩ = some (.int .i64 t.end_) := (hcells 4 (by simp [tokCells])).trans rfl
          have hp3 : pr = (t.end_ == 2) := hp2
          have HTE := Lib.hid (show T = st.at_ + if (t.end_ == 2) = true then 2 else 1 by rw [HTT.out, hp3])
          clear hp2 hp3 hown hcells
          obtain ⟨te, hte⟩ : ∃ te, te = t.end_ := ⟨_, rfl⟩
          rw [← hte] at c4 HTE
          clear hte
          cases hb : te == 2 with
          | true =>
            rw [hb] at HTE
            go_wp2_with fail
            go_ret
            exact ⟨by rw [HTE.out]; exact congrArg (fun t : Int => Ending.returned (.int .i64 t)) (by simp; omega), HB3.out⟩
          | false =>
            rw [hb] at HTE
            go_wp2_with fail
            go_ret
            exact ⟨by rw [HTE.out]; rfl, HB3.out⟩
        | cons t2 l =>
          have HTE := Lib.hid (show T = st.at_ + 1 by rw [HTT.out, hp2]; rfl)
          have dl : (((t :: t2 :: l).length : Int) == 1) = false := by rw [beq_eq_false_iff_ne]; simp; omega
          obtain ⟨n, hn⟩ : ∃ n, n = (t :: t2 :: l).length := ⟨_, rfl⟩
          rw [← hn] at dl ⊢
          clear hp2 hown hcells hn
          go_wp2_with fail
          go_ret
          exact ⟨by rw [HTE.out]; rfl, HB3.out⟩
  · have d3 : decide ((st.at_ : Int) + 1 < (src.length : Int)) = false := by simp; omega
    have HTT := Lib.hid (HT1.out h3)
    clear HT1 HT2 HTK h3
    go_enter Tryz.func45, Tryz.ntmps45
    go_wp2_with fail
    go_quiet (fail)
    go_wp2_with fail
    refine (HWB.out _).mono ?_
    rintro e w1 ⟨rfl, rfl⟩
    go_wp2_with fail
    go_ret
    exact ⟨by rw [HTT.out]; rfl, rfl, rfl, rfl, Nat.le_refl _, fun _ _ => rfl⟩

theorem reach1_c (h : RdOK X H w r sv src st) (hl : st.at_ < src.length) :
    Calls Tryz.prog 45 #[.pointer (some ⟨r, 0, none⟩)] w fun e w' => e = .returned (.int .i64 ((st.at_ + lexLen (src.drop st.at_) : Nat) : Int)) ∧ Below w.heap.size w w' := by
  cases hc : wordCls src[st.at_] with
  | true => exact reach1_word h hl hc
  | false =>
    by_cases hq : src[st.at_] = 34
    · exact reach1_text h hl hc hq
    · exact reach1_sign h hl hc hq
end
end Go.Proofs.YtkaeceedofmhbaaGreatDoor
namespace Go.Proofs.YtkaeceedofmhbaaGreatDoor
open Go.RowKit Bk

theorem both_of_wp {P : Program} {f : FuncId} {fn : Func} {c : Code} {args : Array Value} {u : FrameMode} {w : World} {R : Ending → World → Prop}
    (hf : P.funcs[f]? = some fn) (hb : fn.body = some c)
    (h : c.wp P (bodyPost P fn R) { tmps := args ++ Array.replicate (fn.ntmps - args.size) undef, defers := [] } w) :
    Calls P f args w R ∧ CallsD P f args u w fun e u' w' => u' = u ∧ R e w' := ⟨calls_of_wp hf hb h, callsD_of_wp hf hb h⟩

theorem cls_one_iff : ∀ c : UInt8, cls c = 1 ↔ c.toNat = 9 ∨ c.toNat = 10 ∨ c.toNat = 13 ∨ c.toNat = 32 := by
  have key : ∀ n : Fin 256, cls (UInt8.ofNat n.val) = 1 ↔ n.val = 9 ∨ n.val = 10 ∨ n.val = 13 ∨ n.val = 32 := by decide +kernel
  intro c
  have := key ⟨c.toNat, c.toNat_lt⟩
  simpa using this
theorem cls_two_iff : ∀ c : UInt8, cls c = 2 ↔ c.toNat = 35 := by
  have key : ∀ n : Fin 256, cls (UInt8.ofNat n.val) = 2 ↔ n.val = 35 := by decide +kernel
  intro c
  have := key ⟨c.toNat, c.toNat_lt⟩
  simpa using this

/-- What becomes of the lexeme. -/
def tokRes (s : St) : Except Nat (List Tok) → Res Unit
  | .ok [t] => .ok () { s with tok := t }
  | .ok _ => .ok () s
  | .error b => .ok () { s with bad := b }

/-- A state with nothing asked for and no lexeme, at a place. -/
def bareSt (st : St) (j t : Nat) : St := { st with want := [], name := false, num := false, tok := {}, bad := 0, at_ := j, to_ := t }

section
variable {X : Nat → Prop} {H : Frozen} {r : Nat} {sv : Value} {src : Bytes} {st : St} {w w1 : World} {v : RdS} {ic nc : List Value}

/-- Of a row of the reader's own, nothing. -/
theorem want_none {v : Value} {n : Nat} {xs : List Value} (h : w.ownsRow 0 3 1 v n xs) : ∃ a c, (∀ V, (Instr.slice 22 v none (some (.int .i64 0)) none).run Tryz.prog V = .ok (.slice a 0 c) V) ∧ w.ownsRow 0 3 1 (.slice a 0 c) 0 [] ∧ (Value.slice a 0 c).ownBlock = v.ownBlock := by
  rcases h.2 with ⟨rfl, _⟩ | ⟨g, cap, cur, rfl, hb, hg, h1, h2, h3, h4⟩
  · exact ⟨none, 0, fun V => by kernel_rfl, ⟨rfl, .inl ⟨rfl, rfl⟩⟩, rfl⟩
  · refine ⟨some ⟨g, 0, none⟩, cap, fun V => ?_, ⟨rfl, .inr ⟨g, cap, cur, rfl, hb, hg, by omega, h2, h3, by simp⟩⟩, rfl⟩
    have he : Tryz.prog.elem 22 = 3 := by kernel_rfl
    rw [run_slice_h V 22 (some ⟨g, 0, none⟩) n cap (by rw [he]; exact Tryz.underlying22) .i64 0 (by omega) (by omega)]
    obtain ⟨i0, hi, hz0, hz1, hz2⟩ := info_parts info3
    simp [he, sizeOf, typeInfo, hi, hz1, Result.andThen, sliced, Addr.add]

/-- The reader while blanks are skipped: all else is as it was. -/
structure Skp (w wr : World) (r : Nat) (sv : Value) (st : St) (v : RdS) (j t : Nat) : Prop where
  os : wr.os = w.os
  tape : wr.tape = w.tape
  output : wr.output = w.output
  size : wr.heap.size = w.heap.size
  rest : ∀ k, k ≠ r → wr.heap[k]? = w.heap[k]?
  blk : wr.heap[r]? = some (.cells (rdCells sv (bareSt st j t) v).toArray 64 (0, 0))

theorem Skp.drewN {wr : World} {j t : Nat} (h : Skp w wr r sv st v j t) (n : Nat) : Skp w (wr.drewN n) r sv st v j t := ⟨h.os, h.tape, h.output, h.size, h.rest, h.blk⟩
theorem Skp.at {wr : World} {j t : Nat} (h : Skp w wr r sv st v j t) (m : Nat) : Skp w (wr.setCell ⟨r, 1, none⟩ (.int .i64 m)) r sv st v m t :=
  ⟨h.os, h.tape, h.output, by simpa [World.setCell] using h.size, fun k hk => (Below.heap_setCell _ _ _ _ hk).trans (h.rest k hk), by have := blk_set h.blk 1 (.int .i64 (m : Int)); simpa [rdCells, bareSt] using this⟩
theorem Skp.step {wr : World} {j t : Nat} (h : Skp w wr r sv st v j t) : Skp w (wr.setCell ⟨r, 1, none⟩ (.int .i64 ((j : Int) + 1))) r sv st v (j + 1) t := by
  have := h.at (j + 1)
  simpa using this
theorem Skp.to {wr : World} {j t : Nat} (h : Skp w wr r sv st v j t) (m : Nat) : Skp w (wr.setCell ⟨r, 2, none⟩ (.int .i64 m)) r sv st v j m :=
  ⟨h.os, h.tape, h.output, by simpa [World.setCell] using h.size, fun k hk => (Below.heap_setCell _ _ _ _ hk).trans (h.rest k hk), by have := blk_set h.blk 2 (.int .i64 (m : Int)); simpa [rdCells, bareSt] using this⟩
theorem Skp.c0 {wr : World} {j t : Nat} (h : Skp w wr r sv st v j t) : wr.cell? ⟨r, 0, none⟩ = some sv := cell_of_blk h.blk 0
theorem Skp.c1 {wr : World} {j t : Nat} (h : Skp w wr r sv st v j t) : wr.cell? ⟨r, 1, none⟩ = some (.int .i64 j) := cell_of_blk h.blk 1
theorem Skp.c2 {wr : World} {j t : Nat} (h : Skp w wr r sv st v j t) : wr.cell? ⟨r, 2, none⟩ = some (.int .i64 t) := cell_of_blk h.blk 2
theorem Skp.free {wr : World} {j t : Nat} (h : Skp w wr r sv st v j t) (i : Nat) : wr.frozen? ⟨r, i, none⟩ = false := free_of_blk h.blk i
/-- At rest. -/
theorem Skp.rd {wr : World} {j t : Nat} {v0 : RdS} (h : Skp w wr r sv st v j t) (h0 : RdP X H w r sv src st v0 ic nc) (ho : w.ownsRow 0 3 1 v.wv 0 []) (hw : v.wv.ownBlock = v0.wv.ownBlock) (hi : v.iv = v0.iv) (hn : v.nv = v0.nv) (ht : v.tv = v0.tv)
    (h1 : j ≤ t) (h2 : t ≤ src.length) : RdOK X H wr r sv src (bareSt st j t) ∧ Fr X w wr := by
  have hb : ∀ k, k < w.heap.size → k ≠ r → wr.heap[k]? = w.heap[k]? := fun k _ hk => h.rest k hk
  refine ⟨⟨v, ic, nc, h0.fields (st' := bareSt st j t) (v' := v) (by rw [h.size]; exact Nat.le_refl _) hb h.blk (ownsRow_block ho fun k hk => h.rest k (fun e => h0.r_ne_w (by rw [← hw, hk, e]))) hw hi hn rfl rfl (by rw [ht]; exact h0.trel) h1 h2 (Nat.zero_le _) h0.openl⟩, ⟨h.os, h.tape, h.output, by rw [h.size]; exact Nat.le_refl _, fun k hk => h.rest k (fun e => h0.xr (e ▸ hk))⟩⟩

theorem RdOK.putTok (h : RdOK X H w r sv src st) (t : Tok) :
    RdOK X H (((((w.setCell ⟨r, 3, none⟩ (.int .i64 t.kind)).setCell ⟨r, 4, none⟩ (.int .u64 t.n)).setCell ⟨r, 5, none⟩ (str t.s)).setCell ⟨r, 6, none⟩ (.int .i64 t.at_)).setCell ⟨r, 7, none⟩ (.int .i64 t.end_)) r sv src { st with tok := t } ∧
    Fr X w (((((w.setCell ⟨r, 3, none⟩ (.int .i64 t.kind)).setCell ⟨r, 4, none⟩ (.int .u64 t.n)).setCell ⟨r, 5, none⟩ (str t.s)).setCell ⟨r, 6, none⟩ (.int .i64 t.at_)).setCell ⟨r, 7, none⟩ (.int .i64 t.end_)) := by
  have h1 := h.put (st' := { st with tok := { st.tok with kind := t.kind } }) 3 (.int .i64 t.kind) (fun v => by simp [rdCells]) rfl rfl rfl rfl h.ato h.tol h.badl h.openl
  have h2 := h1.1.put (st' := { st with tok := { st.tok with kind := t.kind, n := t.n } }) 4 (.int .u64 t.n) (fun v => by simp [rdCells]) rfl rfl rfl rfl h.ato h.tol h.badl h.openl
  have h3 := h2.1.put (st' := { st with tok := { st.tok with kind := t.kind, n := t.n, s := t.s } }) 5 (str t.s) (fun v => by simp [rdCells]) rfl rfl rfl rfl h.ato h.tol h.badl h.openl
  have h4 := h3.1.put (st' := { st with tok := { t with end_ := st.tok.end_ } }) 6 (.int .i64 t.at_) (fun v => by simp [rdCells]) rfl rfl rfl rfl h.ato h.tol h.badl h.openl
  have h5 := h4.1.put (st' := { st with tok := t }) 7 (.int .i64 t.end_) (fun v => by simp [rdCells]) rfl rfl rfl rfl h.ato h.tol h.badl h.openl
  exact ⟨h5.1, h1.2.trans (h2.2.trans (h3.2.trans (h4.2.trans h5.2)))⟩

theorem skp_start (h : RdP X H w r sv src st v ic nc) (wv : Value) :
    Skp w ((((((((((w.setCell ⟨r, 9, none⟩ wv).setCell ⟨r, 10, none⟩ (.bool false)).setCell ⟨r, 11, none⟩ (.bool false)).setCell ⟨r, 3, none⟩ (.int .i64 0)).setCell ⟨r, 4, none⟩ (.int .u64 0)).setCell ⟨r, 5, none⟩ (.string ⟨#[]⟩)).setCell ⟨r, 6, none⟩ (.int .i64 0)).setCell ⟨r, 7, none⟩ (.int .i64 0)).setCell ⟨r, 8, none⟩ (.int .i64 0)).setCell ⟨r, 1, none⟩ (.int .i64 (st.to_ : Int))) r sv st { v with wv := wv } st.to_ st.to_ := by
  have g : ∀ (V : World) (k : Nat) (i : Nat) (u : Value), k ≠ r → (V.setCell ⟨r, i, none⟩ u).heap[k]? = V.heap[k]? := fun V k i u hk => Below.heap_setCell _ _ _ _ hk
  have z : ∀ (V : World) (i : Nat) (u : Value), (V.setCell ⟨r, i, none⟩ u).heap.size = V.heap.size := fun V i u => by simp [World.setCell]
  have zo : ∀ (V : World) (i : Nat) (u : Value), (V.setCell ⟨r, i, none⟩ u).os = V.os := fun _ _ _ => rfl
  have zt : ∀ (V : World) (i : Nat) (u : Value), (V.setCell ⟨r, i, none⟩ u).tape = V.tape := fun _ _ _ => rfl
  have zp : ∀ (V : World) (i : Nat) (u : Value), (V.setCell ⟨r, i, none⟩ u).output = V.output := fun _ _ _ => rfl
  refine ⟨?_, ?_, ?_, ?_, fun k hk => ?_, ?_⟩
  · simp only [zo]
  · simp only [zt]
  · simp only [zp]
  · simp only [z]
  · rw [g _ _ _ _ hk, g _ _ _ _ hk, g _ _ _ _ hk, g _ _ _ _ hk, g _ _ _ _ hk, g _ _ _ _ hk, g _ _ _ _ hk, g _ _ _ _ hk, g _ _ _ _ hk, g _ _ _ _ hk]
  · have h1 := blk_set h.blk 9 wv
    have h2 := blk_set h1 10 (.bool false)
    have h3 := blk_set h2 11 (.bool false)
    have h4 := blk_set h3 3 (.int .i64 0)
    have h5 := blk_set h4 4 (.int .u64 0)
    have h6 := blk_set h5 5 (.string ⟨#[]⟩)
    have h7 := blk_set h6 6 (.int .i64 0)
    have h8 := blk_set h7 7 (.int .i64 0)
    have h9 := blk_set h8 8 (.int .i64 0)
    have this := blk_set h9 1 (.int .i64 (st.to_ : Int))
    clear h1 h2 h3 h4 h5 h6 h7 h8 h9
    simpa [rdCells, bareSt, str] using this

end
end Go.Proofs.YtkaeceedofmhbaaGreatDoor
