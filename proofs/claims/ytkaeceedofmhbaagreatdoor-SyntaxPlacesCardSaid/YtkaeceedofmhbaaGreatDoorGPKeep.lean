/-
  Plain Lean, no program in sight: what the layer 'scan' computes, function by function, over lists of bytes. A position is what is left of the text; how much was read is counted.
  Plain Lean, no program in sight: what the layer 'syntax' computes, method by method: a reader's state, and each method as a step from state to state. Recursion is cut off by a number; a step that would need more, or a list that would grow beyond 2^30, ends in 'fuel'.
  Plain Lean, no program in sight: no step of the reader takes an item away.
-/
namespace Bk
abbrev Bytes := List UInt8

/-- A lexeme, as the Go struct has it. -/
structure Tok where
  kind : Int := 0
  n : Int := 0
  s : Bytes := []
  at_ : Int := 0
  end_ : Int := 0
deriving DecidableEq, Repr, Inhabited

def classTab : List Nat := [
  0, 0, 0, 0, 0, 0, 0, 0, 0, 1, 1, 0, 0, 1, 0, 0,
  0, 0, 0, 0, 0, 0, 0, 0, 0, 0, 0, 0, 0, 0, 0, 0,
  1, 6, 5, 2, 0, 6, 6, 0, 6, 6, 6, 6, 6, 6, 6, 6,
  3, 3, 3, 3, 3, 3, 3, 3, 3, 3, 0, 6, 6, 6, 6, 0,
  0, 4, 4, 4, 4, 4, 4, 4, 4, 4, 4, 4, 4, 4, 4, 4,
  4, 4, 4, 4, 4, 4, 4, 4, 4, 4, 4, 6, 0, 6, 6, 4,
  0, 4, 4, 4, 4, 4, 4, 4, 4, 4, 4, 4, 4, 4, 4, 4,
  4, 4, 4, 4, 4, 4, 4, 4, 4, 4, 4, 6, 6, 6, 0, 0]

/-- The class of a byte: 1 blank, 2 '#', 3 digit, 4 letter, 5 quote, 6 sign, 0 other. -/
def cls (c : UInt8) : Nat := classTab.getD c.toNat 0

def isCls (k : Nat) : Bytes → Bool
  | [] => false
  | c :: _ => cls c == k

/-- How many bytes blanks and comments take; the flag: within a comment. -/
def blanks : Bool → Bytes → Nat
  | _, [] => 0
  | false, c :: r => if cls c = 1 then blanks false r + 1 else if cls c = 2 then blanks true r + 1 else 0
  | true, c :: r => if c = 10 then blanks false r + 1 else blanks true r + 1

/-- The reserved words, as bytes. -/
def words : List Bytes := [
  [115, 121, 115, 116, 101, 109],
  [99, 111, 110, 115, 116],
  [101, 97, 99, 104],
  [105, 110],
  [105, 102],
  [101, 108, 115, 101],
  [97, 115, 115, 101, 114, 116],
  [103, 114, 111, 117, 112],
  [117, 115, 101],
  [114, 97, 109],
  [115, 105, 122, 101],
  [100, 101, 118, 105, 99, 101],
  [97, 116],
  [100, 109, 97],
  [114, 101, 103, 105, 111, 110],
  [98, 105, 103],
  [119, 120],
  [102, 105, 108, 108],
  [115, 117, 98, 106, 101, 99, 116],
  [99, 112, 117],
  [115, 116, 111, 112, 112, 101, 100],
  [109, 97, 112],
  [119, 114, 105, 116, 101],
  [101, 120, 101, 99],
  [102, 97, 117, 108, 116],
  [115, 116, 111, 112],
  [114, 101, 115, 101, 116],
  [116, 101, 108, 108],
  [118, 101, 99, 116, 111, 114],
  [99, 104, 97, 110, 110, 101, 108],
  [102, 114, 111, 109],
  [116, 111],
  [111, 118, 101, 114],
  [115, 116, 97, 114, 116],
  [105, 114, 113],
  [109, 97, 115, 107, 101, 100],
  [112, 108, 97, 110],
  [109, 97, 106, 111, 114],
  [114, 117, 110],
  [105, 100, 108, 101],
  [110, 101, 101, 100, 115],
  [110, 101, 101, 100],
  [101, 118, 101, 114, 121],
  [109, 97, 115, 116, 101, 114],
  [113, 117, 101, 117, 101],
  [115, 97, 109, 112, 108, 101],
  [100, 101, 112, 116, 104],
  [112, 117, 115, 104],
  [109, 111, 110, 105, 116, 111, 114],
  [102, 111, 114, 98, 105, 100]]

/-- The kind of a reserved word; 0: it is none. -/
def reserved (w : Bytes) : Nat :=
  match words.findIdx? (· == w) with
  | some k => 30 + k
  | none => 0

def legal (w : Bytes) : Bool :=
  match w with
  | [] => false
  | c :: _ => decide (w.length ≤ 32) && cls c == 4 && reserved w == 0 && w.all (fun d => cls d == 3 || cls d == 4)

/-- What a hex digit counts; 16: it is none. -/
def hexv (c : UInt8) : Nat :=
  if 48 ≤ c.toNat ∧ c.toNat ≤ 57 then c.toNat - 48 else if 97 ≤ c.toNat ∧ c.toNat ≤ 102 then c.toNat - 87 else if 65 ≤ c.toNat ∧ c.toNat ≤ 70 then c.toNat - 55 else 16

/-- Digits of a base: did none lead beyond 64 bits; the number; how many were read; what is left. -/
def digits (hex : Bool) : Nat → Nat → Bytes → Bool × Nat × Nat × Bytes
  | n, k, [] => (true, n, k, [])
  | n, k, c :: r =>
    if (if hex then decide (hexv c < 16) else cls c == 3) then
      let m := if hex then n * 16 + hexv c else n * 10 + (c.toNat - 48)
      if m < 18446744073709551616 then digits hex m (k + 1) r else (false, n, k, c :: r)
    else (true, n, k, c :: r)

/-- The suffix of an integer, and that no word goes on behind it: right; the number; how much was read. -/
def intEnd (n k : Nat) (s : Bytes) : Bool × Nat × Nat :=
  match s with
  | [] => (true, n, k)
  | c :: r =>
    if cls c = 4 then
      if c = 77 ∨ c = 75 then
        let m := if c = 77 then n * 1048576 else n * 1024
        if m < 18446744073709551616 then ((match r with | [] => true | d :: _ => !(cls d == 4) && !(cls d == 3)), m, k + 1) else (false, 0, k)
      else (false, 0, k)
    else (!(cls c == 3), n, k)

/-- An integer at its first digit: right; the number; how much was read (where it is wrong: ahead of the wrong byte). -/
def integer (s : Bytes) : Bool × Nat × Nat :=
  match s with
  | 48 :: 120 :: r =>
    let d := digits true 0 2 r
    if d.1 then (if d.2.2.1 = 2 then (false, 0, 2) else intEnd d.2.1 d.2.2.1 d.2.2.2) else (false, 0, d.2.2.1)
  | _ =>
    let d := digits false 0 0 s
    if d.1 then intEnd d.2.1 d.2.2.1 d.2.2.2 else (false, 0, d.2.2.1)

/-- How long the run of word bytes is. -/
def run : Bytes → Nat
  | [] => 0
  | c :: r => if cls c = 3 ∨ cls c = 4 then run r + 1 else 0

/-- A text behind its quote, and what has been read of it: right; its bytes; how much was read. -/
def text : Bytes → Nat → Bytes → Bool × Bytes × Nat
  | out, k, s =>
    match s with
    | [] => (false, [], k)
    | c :: r =>
      if c = 34 then (true, out, k + 1)
      else if c = 92 then
        match r with
        | [] => (false, [], k + 1)
        | e :: r =>
          if e = 110 then text (out ++ [10]) (k + 2) r
          else if e = 116 then text (out ++ [9]) (k + 2) r
          else if e = 34 ∨ e = 92 then text (out ++ [e]) (k + 2) r
          else if e = 120 then
            match r with
            | [] => (false, [], k + 2)
            | a :: r =>
              if hexv a = 16 then (false, [], k + 2)
              else match r with
                | [] => (false, [], k + 3)
                | b :: r => if hexv b = 16 then (false, [], k + 3) else text (out ++ [UInt8.ofNat (hexv a * 16 + hexv b)]) (k + 4) r
          else (false, [], k + 1)
      else if c.toNat < 32 ∨ 126 < c.toNat then (false, [], k)
      else text (out ++ [c]) (k + 1) r

def single (b : UInt8) : Int :=
  if b = 124 then 20 else if b = 94 then 21 else if b = 38 then 22 else if b = 43 then 25 else if b = 45 then 26 else if b = 42 then 27 else if b = 47 then 28 else if b = 37 then 29
  else if b = 123 then 4 else if b = 125 then 5 else if b = 91 then 6 else if b = 93 then 7 else if b = 40 then 8 else if b = 41 then 9 else if b = 59 then 10 else if b = 44 then 11 else 3

/-- A sign and the byte behind it (0: none): its kind (0: none), how long it is. -/
def sign (b next : UInt8) : Int × Nat :=
  if b = 46 then (if next = 46 then (12, 2) else (0, 1))
  else if b = 33 then (if next = 61 then (15, 2) else (0, 1))
  else if b = 61 then (if next = 61 then (14, 2) else (13, 1))
  else if b = 60 then (if next = 60 then (23, 2) else if next = 61 then (17, 2) else (16, 1))
  else if b = 62 then (if next = 62 then (24, 2) else if next = 61 then (19, 2) else (18, 1))
  else (single b, 1)

/-- A lexeme: right; kind, number, text; how much was read. -/
def lexeme (s : Bytes) : Bool × Int × Int × Bytes × Nat :=
  match s with
  | [] => (false, 0, 0, [], 0)
  | c :: r =>
    if cls c = 3 then (let i := integer s; (i.1, 2, i.2.1, [], i.2.2))
    else if cls c = 4 then
      let k := run s
      if 32 < k then (false, 0, 0, [], 32)
      else let w := s.take k; let q := reserved w; if q = 0 then (true, 1, 0, w, k) else (true, q, 0, [], k)
    else if cls c = 5 then (let t := text [] 1 r; (t.1, 3, 0, t.2.1, t.2.2))
    else if cls c = 6 then (let q := sign c (r.headD 0); (decide (q.1 ≠ 0), q.1, 0, [], q.2))
    else (false, 0, 0, [], 0)

/-- The lexemes of a text, from a place on; or its first wrong byte. The first number: more than there are lexemes. -/
def tokens : Nat → Nat → Bytes → Except Nat (List Tok)
  | 0, k, _ => .error k
  | f + 1, k, s =>
    let b := blanks false s
    let t := s.drop b
    if t.isEmpty then .ok []
    else
      let l := lexeme t
      if l.1 then
        match tokens f (k + b + l.2.2.2.2) (t.drop l.2.2.2.2) with
        | .ok r => .ok ({ kind := l.2.1, n := l.2.2.1, s := l.2.2.2.1, at_ := k + b, end_ := k + b + l.2.2.2.2 } :: r)
        | .error e => .error e
      else .error (k + b + l.2.2.2.2)
end Bk
namespace Bk

structure RefV where
  word : Bytes := []
  at_ : Int := 0
  index : List Int := []
deriving DecidableEq, Repr, Inhabited

structure ItemV where
  kind : Int := 0
  pos : Int := 0
  name : RefV := {}
  frm : RefV := {}
  to_ : RefV := {}
  over : RefV := {}
  params : List RefV := []
  e : List Int := []
  flags : Int := 0
  how : Int := 0
  text : Bytes := []
  kids : List Int := []
  els : List Int := []
deriving DecidableEq, Repr, Inhabited

structure NodeV where
  op : Int := 0
  n : Int := 0
  s : Bytes := []
  kids : List Int := []
  at_ : Int := 0
deriving DecidableEq, Repr, Inhabited

structure TreeV where
  pos : Int := 0
  name : RefV := {}
  items : List ItemV := []
  nodes : List NodeV := []
  top : List Int := []
deriving DecidableEq, Repr, Inhabited

/-- A reader, but for its text. -/
structure St where
  at_ : Nat := 0
  to_ : Nat := 0
  tok : Tok := {}
  bad : Nat := 0
  want : List Int := []
  name : Bool := false
  num : Bool := false
  opened : Nat := 0
  pos : Int := 0
  tname : RefV := {}
  items : List ItemV := []
  nodes : List NodeV := []
deriving DecidableEq, Repr, Inhabited

/-- Why a reading ends: the bounds of this model; a place and a number. -/
inductive Halt where
  | fuel
  | stop (at_ : Nat) (why : Int)
deriving DecidableEq, Repr, Inhabited

inductive Res (α : Type) where
  | ok (a : α) (st : St)
  | bad (h : Halt)
deriving Repr, Inhabited

def M (α : Type) : Type := St → Res α

def M.pure {α : Type} (a : α) : M α := fun st => .ok a st
def M.bind {α β : Type} (m : M α) (f : α → M β) : M β := fun st => match m st with
  | .ok a st' => f a st'
  | .bad h => .bad h
instance : Monad M where
  pure := M.pure
  bind := M.bind

def fuelOut {α : Type} : M α := fun _ => .bad .fuel
def most : Nat := 1073741824

section
variable (src : Bytes)

/-- How long a text is behind its quote, however wrong. -/
def quoted : Bytes → Nat
  | [] => 0
  | 34 :: _ => 1
  | 92 :: [] => 1
  | 92 :: _ :: r => quoted r + 2
  | _ :: r => quoted r + 1

/-- Is that sign of two bytes one lexeme? -/
def pair (c d : UInt8) : Bool :=
  match tokens 3 0 [c, d] with
  | .ok [t] => t.end_ == 2
  | _ => false

/-- How long the lexeme that begins here is, however wrong. -/
def lexLen : Bytes → Nat
  | [] => 0
  | c :: r =>
    if cls c = 3 ∨ cls c = 4 then run r + 1
    else if c = 34 then quoted r + 1
    else match r with
      | [] => 1
      | d :: _ => if pair c d then 2 else 1

def next : M Unit := fun st =>
  let a := st.to_ + blanks false (src.drop st.to_)
  let s := src.drop a
  if s.isEmpty then .ok () { st with want := [], name := false, num := false, tok := {}, bad := 0, at_ := a, to_ := a }
  else
    let n := lexLen s
    match tokens (n + 1) 0 (s.take n) with
    | .ok [t] => .ok () { st with want := [], name := false, num := false, tok := t, bad := 0, at_ := a, to_ := a + n }
    | .ok _ => .ok () { st with want := [], name := false, num := false, tok := {}, bad := 0, at_ := a, to_ := a + n }
    | .error b => .ok () { st with want := [], name := false, num := false, tok := {}, bad := b, at_ := a, to_ := a + n }

def see (kind : Int) : M Bool := fun st =>
  if st.tok.kind = kind then .ok true st
  else if st.want.length < most then .ok false { st with want := st.want ++ [kind] } else .bad .fuel

def take (kind : Int) : M Bool := do
  if ← see kind then
    next src
    return true
  else return false

/-- How a kind of lexeme is spelt. -/
def signs : List Bytes := [[123], [125], [91], [93], [40], [41], [59], [44], [46, 46], [61], [61, 61], [33, 61], [60], [60, 61], [62], [62, 61], [124], [94], [38], [60, 60], [62, 62], [43], [45], [42], [47], [37]]
def spelled (kind : Int) : Bytes :=
  if 30 ≤ kind ∧ kind ≤ 79 then words.getD (kind.toNat - 30) []
  else if 4 ≤ kind ∧ kind ≤ 29 then signs.getD (kind.toNat - 4) []
  else []

def goesNum (head : Bytes) : Bool :=
  match tokens (head.length + 1) 0 head with
  | .ok _ => true
  | .error b => b == head.length
def isDigit (head : Bytes) : Bool := match head with
  | [] => false
  | c :: _ => decide (48 ≤ c.toNat) && decide (c.toNat ≤ 57)

def goes (st : St) (head : Bytes) : Bool :=
  (st.name && (legal head || reserved head != 0)) || (st.num && isDigit head && goesNum head) || st.want.any (fun k => head.isPrefixOf (spelled k))

/-- How many bytes of a lexeme something that was asked for begins with: from k on, n more may come. -/
def goesUp (st : St) (lex : Bytes) : Nat → Nat → Nat
  | 0, k => k
  | n + 1, k => if goes st (lex.take (k + 1)) then goesUp st lex n (k + 1) else k

def failAt (st : St) : Nat :=
  if st.at_ < st.to_ ∧ (src.drop st.at_).head? = some 34 then (if st.want.contains 3 then st.bad else 0)
  else goesUp st ((src.drop st.at_).take (st.to_ - st.at_)) (st.to_ - st.at_) 0

def fail {α : Type} : M α := fun st => .bad (.stop (st.at_ + failAt src st) 60)

def must (kind : Int) : M Unit := do
  if ← take src kind then return () else fail src

def open_ (kind : Int) : M Unit := do
  if ← see kind then
    fun st => if st.opened = 32 then .bad (.stop st.at_ 61) else next src { st with opened := st.opened + 1 }
  else fail src

def shut (kind : Int) : M Unit := do
  must src kind
  fun st => if st.opened = 0 then .bad .fuel else .ok () { st with opened := st.opened - 1 }

def word : M RefV := fun st =>
  let st := { st with name := true }
  if st.tok.kind = 1 then (do next src; return ({ word := st.tok.s, at_ := st.at_ } : RefV) : M RefV) st
  else fail src st

def rank (kind : Int) : Int :=
  if kind = 20 then 2 else if kind = 21 then 3 else if kind = 22 then 4 else if kind = 23 ∨ kind = 24 then 5 else if kind = 25 ∨ kind = 26 then 6 else if kind = 27 ∨ kind = 28 ∨ kind = 29 then 7
  else if 14 ≤ kind ∧ kind ≤ 19 then 1 else 0

def node (n : NodeV) : M Int := fun st =>
  if st.nodes.length < most then .ok (st.nodes.length : Int) { st with nodes := st.nodes ++ [n] } else .bad .fuel

/-- What an expression goes on with is asked for: the operators from a kind on, so many. -/
def asks (above most : Int) : Nat → Int → M Unit
  | 0, _ => return ()
  | n + 1, k => do
    if rank k > above ∧ rank k < most then let _ ← see k
    asks above most n (k + 1)

mutual
def expr : Nat → Int → M Int
  | 0, _ => fuelOut
  | n + 1, above => do
    let a ← atom n
    exprOn n above a 8
def exprOn : Nat → Int → Int → Int → M Int
  | 0, _, _, _ => fuelOut
  | n + 1, above, a, top => do
    asks above top 16 14
    fun st =>
      if rank st.tok.kind ≤ above ∨ rank st.tok.kind ≥ top then .ok a st
      else (do
        next src
        let b ← expr n (rank st.tok.kind)
        let a' ← node { op := st.tok.kind, kids := [a, b], at_ := st.at_ }
        exprOn n above a' (if rank st.tok.kind = 1 then 1 else top) : M Int) st
def atom : Nat → M Int
  | 0 => fuelOut
  | n + 1 => fun st => (do
      if ← see 8 then
        open_ src 8
        let k ← expr n 0
        shut src 9
        return k
      else fun st =>
        if st.tok.kind = 2 then (do let k ← node { op := 2, n := st.tok.n, at_ := st.at_ }; next src; return k : M Int) st
        else if st.tok.kind = 1 then (do let k ← node { op := 1, s := st.tok.s, at_ := st.at_ }; next src; return k : M Int) st
        else fail src st : M Int) { st with num := true, name := true }
end

/-- The indices of a name, from what has been read on. -/
def refOn : Nat → RefV → M RefV
  | 0, _ => fuelOut
  | n + 1, f => do
    if ← see 6 then
      open_ src 6
      let k ← expr src n 0
      shut src 7
      if f.index.length < most then refOn n { f with index := f.index ++ [k] } else fuelOut
    else return f

def ref (n : Nat) : M RefV := do
  let f ← word src
  refOn src n f

def begin_ (kind : Int) : M Nat := fun st =>
  if st.items.length < most then (do next src; return st.items.length : M Nat) { st with items := st.items ++ [{ kind := kind, pos := st.at_ }] } else .bad .fuel

def row (k : Nat) : M ItemV := fun st => .ok (st.items.getD k {}) st

def end_ (k : Nat) (x : ItemV) : M Int := fun st => .ok (k : Int) { st with items := st.items.set k x }

/-- One expression more. -/
def more (n : Nat) (x : ItemV) : M ItemV := do
  let k ← expr src n 0
  if x.e.length < most then return { x with e := x.e ++ [k] } else fuelOut

def number (n : Nat) (x : ItemV) (w : Int) : M ItemV := do
  must src w
  more src n x

def orF (a b : Int) : Int := ((a.toNat ||| b.toNat : Nat) : Int)

def flag (x : ItemV) (w f : Int) : M (Bool × ItemV) := do
  if ← take src w then return (true, { x with flags := orF x.flags f }) else return (false, x)

def useOn : Nat → ItemV → M ItemV
  | 0, _ => fuelOut
  | n + 1, x => do
    let b ← see 9
    if b = false ∨ 0 < x.e.length then
      let x ← more src n x
      if ← take src 11 then useOn n x else return x
    else return x

def use (n : Nat) (x : ItemV) : M ItemV := do
  let f ← word src
  open_ src 8
  let x ← useOn src n { x with name := f }
  shut src 9
  must src 10
  return x

def ram (n : Nat) (x : ItemV) : M ItemV := do
  let x ← more src n x
  let x ← number src n x 40
  must src 10
  return x

def region (n : Nat) (x : ItemV) : M ItemV := do
  let f ← ref src n
  let x ← number src n { x with name := f } 40
  let (b, x) ← flag src x 42 1
  let x ← if b then more src n x else pure x
  let (_, x) ← flag src x 45 2
  let (_, x) ← flag src x 46 4
  let x ← if ← take src 47 then (do
      if ← see 3 then
        fun st => (do next src; return { x with flags := orF x.flags 16, text := st.tok.s } : M ItemV) st
      else more src n { x with flags := orF x.flags 8 })
    else pure x
  must src 10
  return x

def ends (n : Nat) (x : ItemV) : M ItemV := do
  let f ← ref src n
  must src 60
  let g ← ref src n
  must src 61
  let h ← ref src n
  return { x with name := f, frm := g, to_ := h }

def channel (n : Nat) (x : ItemV) : M ItemV := do
  let x ← ends src n x
  let (b, x) ← flag src x 62 2048
  let x ← if b then (do let f ← ref src n; return { x with over := f }) else pure x
  let x ← if ← see 58 then number src n { x with how := 1 } 58
    else (do
      if ← take src 56 then return { x with how := 2 }
      else (do
        if ← take src 55 then return { x with how := 3 }
        else (do must src 63; return { x with how := 4 } : M ItemV) : M ItemV) : M ItemV)
  must src 10
  return x

def irq (n : Nat) (x : ItemV) : M ItemV := do
  let x ← ends src n x
  let x ← number src n x 58
  let (_, x) ← flag src x 65 256
  must src 10
  return x

def queue (n : Nat) (x : ItemV) : M ItemV := do
  let x ← ends src n x
  let x ← number src n x 76
  let (_, x) ← flag src x 77 8192
  must src 10
  return x

def forbid (n : Nat) (x : ItemV) : M ItemV := do
  let f ← ref src n
  must src 61
  let g ← ref src n
  must src 10
  return { x with frm := f, to_ := g }

def sample (n : Nat) (x : ItemV) : M ItemV := do
  let x ← ends src n x
  must src 10
  return x

def pick (n : Nat) (x : ItemV) : M ItemV := do
  let f ← ref src n
  must src 10
  return { x with name := f }

def mapping (n : Nat) (x : ItemV) : M ItemV := do
  let f ← ref src n
  let x ← number src n { x with name := f } 42
  let (_, x) ← flag src x 52 32
  let (_, x) ← flag src x 53 64
  must src 10
  return x

def fault (n : Nat) (x : ItemV) : M ItemV := do
  let x ← if ← take src 55 then pure { x with how := 3 }
    else (do
      if ← take src 56 then return { x with how := 2 }
      else (do
        must src 57
        let f ← ref src n
        number src n { x with how := 1, to_ := f } 58 : M ItemV) : M ItemV)
  must src 10
  return x

def runs (n : Nat) (x : ItemV) : M ItemV := do
  let f ← ref src n
  let x ← more src n { x with name := f }
  must src 10
  return x

def idle (n : Nat) (x : ItemV) : M ItemV := do
  let x ← more src n x
  must src 10
  return x

def needs (n : Nat) (x : ItemV) : M ItemV := do
  let f ← ref src n
  let x ← more src n { x with name := f }
  let x ← number src n x 72
  must src 10
  return x

/-- The rules: what reads one item of a kind of block. -/
inductive Rule where
  | own | item | reach | part | lane | run | need
deriving DecidableEq, Repr, Inhabited

/-- How what stands behind a keyword is read. -/
inductive Rd where
  | use | ram | device | region | subject | channel | irq | plan | pick | queue | sample | forbid | mapping | fault | cpu | runs | idle | needs
deriving DecidableEq, Repr, Inhabited

/-- The keywords of a kind of block, the kinds of items, how they are read. -/
def decls : Rule → List (Int × Int × Rd)
  | .own => []
  | .item => [(38, 6, .use), (39, 7, .ram), (41, 8, .device), (44, 9, .region), (48, 10, .subject), (59, 11, .channel), (64, 12, .irq), (66, 13, .plan), (73, 14, .pick), (63, 15, .pick), (74, 22, .queue), (75, 23, .sample), (78, 24, .pick), (79, 25, .forbid)]
  | .reach => [(51, 16, .mapping)]
  | .part => [(51, 16, .mapping), (54, 17, .fault)]
  | .lane => [(49, 18, .cpu)]
  | .run => [(68, 19, .runs), (69, 20, .idle)]
  | .need => [(71, 21, .needs)]

/-- The first keyword that stands here, and what is behind it. -/
def declOn (read : Rd → ItemV → M ItemV) : List (Int × Int × Rd) → M Int
  | [] => fail src
  | (w, k, rd) :: ds => do
    if ← see w then
      let i ← begin_ src k
      let x ← row i
      let x ← read rd x
      end_ i x
    else declOn read ds

def groupOn : Nat → ItemV → M ItemV
  | 0, _ => fuelOut
  | n + 1, x => do
    let b ← see 9
    if b = false ∨ 0 < x.params.length then
      let f ← word src
      if x.params.length < most then
        if ← take src 11 then groupOn n { x with params := x.params ++ [f] } else return { x with params := x.params ++ [f] }
      else fuelOut
    else return x

mutual
def block : Nat → Rule → M (List Int)
  | 0, _ => fuelOut
  | n + 1, u => do
    open_ src 4
    let l ← blockOn n u []
    shut src 5
    return l
def blockOn : Nat → Rule → List Int → M (List Int)
  | 0, _, _ => fuelOut
  | n + 1, u, l => do
    if ← see 5 then return l
    else
      let k ← one n u
      if l.length < most then blockOn n u (l ++ [k]) else fuelOut
def one : Nat → Rule → M Int
  | 0, _ => fuelOut
  | n + 1, u => do
    if u = .own then
      if ← see 37 then group n else one n .item
    else
      match ← inner n u with
      | some k => return k
      | none => declOn src (fun rd x => read n rd x) (decls u)
def group : Nat → M Int
  | 0 => fuelOut
  | n + 1 => do
    let k ← begin_ src 5
    let x ← row k
    let f ← word src
    open_ src 8
    let x ← groupOn src n { x with name := f }
    shut src 9
    let l ← block n .item
    end_ k { x with kids := l }
def inner : Nat → Rule → M (Option Int)
  | 0, _ => fuelOut
  | n + 1, u => do
    if ← see 31 then
      let k ← begin_ src 1
      let x ← row k
      let f ← word src
      must src 13
      let a ← expr src n 0
      must src 10
      let i ← end_ k { x with name := f, e := [a] }
      return some i
    else (do
      if ← see 36 then
        let k ← begin_ src 4
        let x ← row k
        let a ← expr src n 0
        must src 10
        let i ← end_ k { x with e := [a] }
        return some i
      else (do
        if ← see 32 then
          let k ← begin_ src 2
          let x ← row k
          let f ← word src
          must src 33
          let x ← more src n { x with name := f }
          must src 12
          let x ← more src n x
          let l ← block n u
          let i ← end_ k { x with kids := l }
          return some i
        else (do
          if ← see 34 then
            let k ← begin_ src 3
            let x ← row k
            let a ← expr src n 0
            let l ← block n u
            if ← take src 35 then
              let m ← block n u
              let i ← end_ k { x with e := [a], kids := l, flags := 4096, els := m }
              return some i
            else
              let i ← end_ k { x with e := [a], kids := l }
              return some i
          else return none : M (Option Int)) : M (Option Int)) : M (Option Int))
def read : Nat → Rd → ItemV → M ItemV
  | 0, _, _ => fuelOut
  | n + 1, rd, x => match rd with
    | .use => use src n x
    | .ram => ram src n x
    | .region => region src n x
    | .channel => channel src n x
    | .irq => irq src n x
    | .pick => pick src n x
    | .queue => queue src n x
    | .sample => sample src n x
    | .forbid => forbid src n x
    | .mapping => mapping src n x
    | .fault => fault src n x
    | .runs => runs src n x
    | .idle => idle src n x
    | .needs => needs src n x
    | .device => do
      let f ← ref src n
      let x ← number src n { x with name := f } 42
      let x ← number src n x 40
      let (b, x) ← flag src x 43 512
      if b then
        let l ← block n .reach
        return { x with kids := l }
      else
        must src 10
        return x
    | .subject => do
      let f ← ref src n
      let x ← number src n { x with name := f } 49
      let (_, x) ← flag src x 50 128
      let l ← block n .part
      return { x with kids := l }
    | .plan => do
      let f ← ref src n
      let x ← number src n { x with name := f } 67
      let l ← block n .lane
      return { x with kids := l }
    | .cpu => do
      let x ← more src n x
      let (b, x) ← flag src x 70 1024
      let l ← if b then block n .need else block n .run
      return { x with kids := l }
end

/-- A text, read; what recursion may cost. -/
def parseM (n : Nat) : M TreeV := do
  next src
  fun st => (do
    must src 30
    let f ← word src
    (fun st => (do
      let top ← block src n .own
      (fun st => if st.at_ < src.length then fail src st else .ok { pos := st.pos, name := st.tname, items := st.items, nodes := st.nodes, top := top } st : M TreeV) : M TreeV) { st with tname := f } : M TreeV) : M TreeV) { st with pos := st.at_ }

structure PlaceV where
  at_ : Int := 0
  line : Int := 0
  column : Int := 0
deriving DecidableEq, Repr, Inhabited

/-- Behind the last line's end: how many bytes; lines: how many ends. -/
def lineOf (s : Bytes) : Int × Int := s.foldl (fun p c => if c = 10 then (p.1 + 1, 1) else (p.1, p.2 + 1)) (1, 1)

def place (at_ : Int) : PlaceV :=
  let k := min (max at_ 0) (src.length : Int)
  let p := lineOf (src.take k.toNat)
  { at_ := k, line := p.1, column := p.2 }

inductive Out where
  | fuel
  | tree (t : TreeV)
  | refused (p : PlaceV) (why : Int)
deriving DecidableEq, Repr, Inhabited

def parseN (n : Nat) : Out :=
  if 1048576 < src.length then .refused (place src 0) 3
  else match parseM src n {} with
    | .ok t _ => .tree t
    | .bad .fuel => .fuel
    | .bad (.stop a w) => .refused (place src a) w
end
end Bk
namespace Bk
def Keep {α : Type} (m : M α) : Prop := ∀ st a st', m st = .ok a st' → st.items.length ≤ st'.items.length
section
variable {α β : Type} {src : Bytes}
theorem keep_bind {m : M α} {f : α → M β} (hm : Keep m) (hf : ∀ a, Keep (f a)) : Keep (m >>= f) := fun st b st' h => by
  change M.bind m f st = _ at h
  unfold M.bind at h
  split at h
  · rename_i a s1 h1
    exact Nat.le_trans (hm _ _ _ h1) (hf _ _ _ _ h)
  · cases h
theorem keep_pure {a : α} : Keep (pure a : M α) := fun st b st' h => by
  change Res.ok a st = _ at h
  injection h with _ h; rw [h]; exact Nat.le_refl _
theorem keep_fuel : Keep (fuelOut : M α) := fun _ _ _ h => by cases h
theorem keep_fail : Keep (fail src : M α) := fun _ _ _ h => by cases h
theorem keep_ite {c : Prop} [Decidable c] {m n : M α} (h1 : Keep m) (h2 : Keep n) : Keep (if c then m else n) := by split <;> assumption
/-- A step that looks at the state first, and goes on from one that has no fewer items. -/
theorem keep_at {f : St → Res α} (h : ∀ st, ∃ (m : M α) (s1 : St), f st = m s1 ∧ st.items.length ≤ s1.items.length ∧ Keep m) : Keep f := fun st a st' he => by
  obtain ⟨m, s1, e, l, k⟩ := h st
  exact Nat.le_trans l (k _ _ _ (by rw [← e]; exact he))

theorem keep_next : Keep (next src) := fun st a st' h => by
  unfold next at h
  dsimp only at h
  split at h
  · injection h with _ h; rw [← h]; exact Nat.le_refl _
  · split at h <;> (injection h with _ h; rw [← h]; exact Nat.le_refl _)
theorem keep_see {k : Int} : Keep (see k) := fun st a st' h => by
  unfold see at h
  split at h
  · injection h with _ h; rw [← h]; exact Nat.le_refl _
  · split at h
    · injection h with _ h; rw [← h]; exact Nat.le_refl _
    · cases h
theorem keep_take {k : Int} : Keep (take src k) := by
  unfold take
  exact keep_bind keep_see fun _ => keep_ite (keep_bind keep_next fun _ => keep_pure) keep_pure
theorem keep_must {k : Int} : Keep (must src k) := by
  unfold must
  exact keep_bind keep_take fun _ => keep_ite keep_pure keep_fail
theorem keep_open {k : Int} : Keep (open_ src k) := by
  unfold open_
  refine keep_bind keep_see fun _ => keep_ite (fun st a st' h => ?_) keep_fail
  split at h
  · cases h
  · exact keep_next { st with opened := st.opened + 1 } a st' h
theorem keep_shut {k : Int} : Keep (shut src k) := by
  unfold shut
  refine keep_bind keep_must fun _ => fun st a st' h => ?_
  split at h
  · cases h
  · injection h with _ h; rw [← h]; exact Nat.le_refl _
theorem keep_word : Keep (word src) := fun st a st' h => by
  unfold word at h
  dsimp only at h
  split at h
  · exact (keep_bind keep_next fun _ => keep_pure) { st with name := true } a st' h
  · cases h
theorem keep_node {n : NodeV} : Keep (node n) := fun st a st' h => by
  unfold node at h
  split at h
  · injection h with _ h; rw [← h]; exact Nat.le_refl _
  · cases h
theorem keep_asks {above top : Int} : ∀ (n : Nat) (k : Int), Keep (asks above top n k)
  | 0, k => by rw [asks]; exact keep_pure
  | n + 1, k => by
    rw [asks]
    split
    · exact keep_bind keep_see fun _ => keep_asks n (k + 1)
    · exact keep_asks n (k + 1)
theorem keep_exprs : ∀ n, (∀ ab, Keep (expr src n ab)) ∧ (∀ ab a t, Keep (exprOn src n ab a t)) ∧ Keep (atom src n)
  | 0 => ⟨fun _ => by rw [expr]; exact keep_fuel, fun _ _ _ => by rw [exprOn]; exact keep_fuel, by rw [atom]; exact keep_fuel⟩
  | n + 1 => by
    obtain ⟨h1, h2, h3⟩ := keep_exprs n
    refine ⟨fun ab => ?_, fun ab a t => ?_, ?_⟩
    · rw [expr]; exact keep_bind h3 fun _ => h2 _ _ _
    · rw [exprOn]
      refine keep_bind (keep_asks _ _) fun _ => fun st b st' h => ?_
      split at h
      · injection h with _ h; rw [← h]; exact Nat.le_refl _
      · exact (keep_bind keep_next fun _ => keep_bind (h1 _) fun _ => keep_bind keep_node fun _ => h2 _ _ _) st b st' h
    · rw [atom]
      intro st b st' h
      refine (keep_bind keep_see fun q => ?_ : Keep _) { st with num := true, name := true } b st' h
      refine keep_ite (keep_bind keep_open fun _ => keep_bind (h1 _) fun _ => keep_bind keep_shut fun _ => keep_pure) (fun st b st' h => ?_)
      split at h
      · exact (keep_bind keep_node fun _ => keep_bind keep_next fun _ => keep_pure) st b st' h
      · split at h
        · exact (keep_bind keep_node fun _ => keep_bind keep_next fun _ => keep_pure) st b st' h
        · cases h
theorem keep_expr {n : Nat} {ab : Int} : Keep (expr src n ab) := (keep_exprs n).1 ab
theorem keep_refOn : ∀ (n : Nat) (f : RefV), Keep (refOn src n f)
  | 0, f => by rw [refOn]; exact keep_fuel
  | n + 1, f => by
    rw [refOn]
    exact keep_bind keep_see fun _ => keep_ite (keep_bind keep_open fun _ => keep_bind keep_expr fun _ => keep_bind keep_shut fun _ => keep_ite (keep_refOn n _) keep_fuel) keep_pure
theorem keep_ref {n : Nat} : Keep (ref src n) := by unfold ref; exact keep_bind keep_word fun _ => keep_refOn _ _
theorem keep_begin {k : Int} : Keep (begin_ src k) := fun st a st' h => by
  unfold begin_ at h
  split at h
  · have := (keep_bind (β := Nat) keep_next fun _ => keep_pure) _ a st' h
    simp at this; omega
  · cases h
theorem keep_row {k : Nat} : Keep (row k) := fun st a st' h => by
  unfold row at h; injection h with _ h; rw [h]; exact Nat.le_refl _
theorem keep_end {k : Nat} {x : ItemV} : Keep (end_ k x) := fun st a st' h => by
  unfold end_ at h; injection h with _ h; rw [← h]; simp
theorem keep_more {n : Nat} {x : ItemV} : Keep (more src n x) := by
  unfold more; exact keep_bind keep_expr fun _ => keep_ite keep_pure keep_fuel
theorem keep_number {n : Nat} {x : ItemV} {k : Int} : Keep (number src n x k) := by
  unfold number; exact keep_bind keep_must fun _ => keep_more
theorem keep_flag {x : ItemV} {k f : Int} : Keep (flag src x k f) := by
  unfold flag; exact keep_bind keep_take fun _ => keep_ite keep_pure keep_pure
theorem keep_ends {n : Nat} {x : ItemV} : Keep (ends src n x) := by
  unfold ends; exact keep_bind keep_ref fun _ => keep_bind keep_must fun _ => keep_bind keep_ref fun _ => keep_bind keep_must fun _ => keep_bind keep_ref fun _ => keep_pure
-- PRINTED by gen/pkeep.py
theorem keep_local {f : St → M α} (h : ∀ s, Keep (f s)) : Keep (fun st => f st st) := fun st a st' he => h st st a st' he
theorem keep_useOn : ∀ (n : Nat) (x : ItemV), Keep (useOn src n x)
  | 0, x => by rw [useOn]; exact keep_fuel
  | n + 1, x => by
    rw [useOn]
    repeat first | exact keep_pure | exact keep_useOn n _ | exact keep_fuel | exact keep_fail | exact keep_next | exact keep_see | exact keep_take | exact keep_must | exact keep_open | exact keep_shut | exact keep_word | exact keep_ref | exact keep_expr | exact keep_more | exact keep_number | exact keep_flag | exact keep_ends | exact keep_begin | exact keep_row | exact keep_end | exact fun st a st' h => (keep_bind keep_next fun _ => keep_pure) st a st' h | refine keep_ite ?_ ?_ | refine keep_bind ?_ (fun _ => ?_) | split
theorem keep_groupOn : ∀ (n : Nat) (x : ItemV), Keep (groupOn src n x)
  | 0, x => by rw [groupOn]; exact keep_fuel
  | n + 1, x => by
    rw [groupOn]
    repeat first | exact keep_pure | exact keep_groupOn n _ | exact keep_fuel | exact keep_fail | exact keep_next | exact keep_see | exact keep_take | exact keep_must | exact keep_open | exact keep_shut | exact keep_word | exact keep_ref | exact keep_expr | exact keep_more | exact keep_number | exact keep_flag | exact keep_ends | exact keep_begin | exact keep_row | exact keep_end | exact fun st a st' h => (keep_bind keep_next fun _ => keep_pure) st a st' h | refine keep_ite ?_ ?_ | refine keep_bind ?_ (fun _ => ?_) | split
theorem keep_use {n : Nat} {x : ItemV} : Keep (use src n x) := by
  unfold use
  repeat first | exact keep_pure | exact keep_fuel | exact keep_fail | exact keep_next | exact keep_see | exact keep_take | exact keep_must | exact keep_open | exact keep_shut | exact keep_word | exact keep_ref | exact keep_expr | exact keep_more | exact keep_number | exact keep_flag | exact keep_ends | exact keep_begin | exact keep_row | exact keep_end | exact keep_useOn _ _ | exact keep_groupOn _ _ | exact fun st a st' h => (keep_bind keep_next fun _ => keep_pure) st a st' h | refine keep_ite ?_ ?_ | refine keep_bind ?_ (fun _ => ?_) | split
theorem keep_ram {n : Nat} {x : ItemV} : Keep (ram src n x) := by
  unfold ram
  repeat first | exact keep_pure | exact keep_fuel | exact keep_fail | exact keep_next | exact keep_see | exact keep_take | exact keep_must | exact keep_open | exact keep_shut | exact keep_word | exact keep_ref | exact keep_expr | exact keep_more | exact keep_number | exact keep_flag | exact keep_ends | exact keep_begin | exact keep_row | exact keep_end | exact keep_useOn _ _ | exact keep_groupOn _ _ | exact fun st a st' h => (keep_bind keep_next fun _ => keep_pure) st a st' h | refine keep_ite ?_ ?_ | refine keep_bind ?_ (fun _ => ?_) | split
theorem keep_region {n : Nat} {x : ItemV} : Keep (region src n x) := by
  unfold region
  repeat first | exact keep_pure | exact keep_fuel | exact keep_fail | exact keep_next | exact keep_see | exact keep_take | exact keep_must | exact keep_open | exact keep_shut | exact keep_word | exact keep_ref | exact keep_expr | exact keep_more | exact keep_number | exact keep_flag | exact keep_ends | exact keep_begin | exact keep_row | exact keep_end | exact keep_useOn _ _ | exact keep_groupOn _ _ | exact fun st a st' h => (keep_bind keep_next fun _ => keep_pure) st a st' h | refine keep_ite ?_ ?_ | refine keep_bind ?_ (fun _ => ?_) | split
theorem keep_channel {n : Nat} {x : ItemV} : Keep (channel src n x) := by
  unfold channel
  repeat first | exact keep_pure | exact keep_fuel | exact keep_fail | exact keep_next | exact keep_see | exact keep_take | exact keep_must | exact keep_open | exact keep_shut | exact keep_word | exact keep_ref | exact keep_expr | exact keep_more | exact keep_number | exact keep_flag | exact keep_ends | exact keep_begin | exact keep_row | exact keep_end | exact keep_useOn _ _ | exact keep_groupOn _ _ | exact fun st a st' h => (keep_bind keep_next fun _ => keep_pure) st a st' h | refine keep_ite ?_ ?_ | refine keep_bind ?_ (fun _ => ?_) | split
theorem keep_irq {n : Nat} {x : ItemV} : Keep (irq src n x) := by
  unfold irq
  repeat first | exact keep_pure | exact keep_fuel | exact keep_fail | exact keep_next | exact keep_see | exact keep_take | exact keep_must | exact keep_open | exact keep_shut | exact keep_word | exact keep_ref | exact keep_expr | exact keep_more | exact keep_number | exact keep_flag | exact keep_ends | exact keep_begin | exact keep_row | exact keep_end | exact keep_useOn _ _ | exact keep_groupOn _ _ | exact fun st a st' h => (keep_bind keep_next fun _ => keep_pure) st a st' h | refine keep_ite ?_ ?_ | refine keep_bind ?_ (fun _ => ?_) | split
theorem keep_queue {n : Nat} {x : ItemV} : Keep (queue src n x) := by
  unfold queue
  repeat first | exact keep_pure | exact keep_fuel | exact keep_fail | exact keep_next | exact keep_see | exact keep_take | exact keep_must | exact keep_open | exact keep_shut | exact keep_word | exact keep_ref | exact keep_expr | exact keep_more | exact keep_number | exact keep_flag | exact keep_ends | exact keep_begin | exact keep_row | exact keep_end | exact keep_useOn _ _ | exact keep_groupOn _ _ | exact fun st a st' h => (keep_bind keep_next fun _ => keep_pure) st a st' h | refine keep_ite ?_ ?_ | refine keep_bind ?_ (fun _ => ?_) | split
theorem keep_forbid {n : Nat} {x : ItemV} : Keep (forbid src n x) := by
  unfold forbid
  repeat first | exact keep_pure | exact keep_fuel | exact keep_fail | exact keep_next | exact keep_see | exact keep_take | exact keep_must | exact keep_open | exact keep_shut | exact keep_word | exact keep_ref | exact keep_expr | exact keep_more | exact keep_number | exact keep_flag | exact keep_ends | exact keep_begin | exact keep_row | exact keep_end | exact keep_useOn _ _ | exact keep_groupOn _ _ | exact fun st a st' h => (keep_bind keep_next fun _ => keep_pure) st a st' h | refine keep_ite ?_ ?_ | refine keep_bind ?_ (fun _ => ?_) | split
theorem keep_sample {n : Nat} {x : ItemV} : Keep (sample src n x) := by
  unfold sample
  repeat first | exact keep_pure | exact keep_fuel | exact keep_fail | exact keep_next | exact keep_see | exact keep_take | exact keep_must | exact keep_open | exact keep_shut | exact keep_word | exact keep_ref | exact keep_expr | exact keep_more | exact keep_number | exact keep_flag | exact keep_ends | exact keep_begin | exact keep_row | exact keep_end | exact keep_useOn _ _ | exact keep_groupOn _ _ | exact fun st a st' h => (keep_bind keep_next fun _ => keep_pure) st a st' h | refine keep_ite ?_ ?_ | refine keep_bind ?_ (fun _ => ?_) | split
theorem keep_pick {n : Nat} {x : ItemV} : Keep (pick src n x) := by
  unfold pick
  repeat first | exact keep_pure | exact keep_fuel | exact keep_fail | exact keep_next | exact keep_see | exact keep_take | exact keep_must | exact keep_open | exact keep_shut | exact keep_word | exact keep_ref | exact keep_expr | exact keep_more | exact keep_number | exact keep_flag | exact keep_ends | exact keep_begin | exact keep_row | exact keep_end | exact keep_useOn _ _ | exact keep_groupOn _ _ | exact fun st a st' h => (keep_bind keep_next fun _ => keep_pure) st a st' h | refine keep_ite ?_ ?_ | refine keep_bind ?_ (fun _ => ?_) | split
theorem keep_mapping {n : Nat} {x : ItemV} : Keep (mapping src n x) := by
  unfold mapping
  repeat first | exact keep_pure | exact keep_fuel | exact keep_fail | exact keep_next | exact keep_see | exact keep_take | exact keep_must | exact keep_open | exact keep_shut | exact keep_word | exact keep_ref | exact keep_expr | exact keep_more | exact keep_number | exact keep_flag | exact keep_ends | exact keep_begin | exact keep_row | exact keep_end | exact keep_useOn _ _ | exact keep_groupOn _ _ | exact fun st a st' h => (keep_bind keep_next fun _ => keep_pure) st a st' h | refine keep_ite ?_ ?_ | refine keep_bind ?_ (fun _ => ?_) | split
theorem keep_fault {n : Nat} {x : ItemV} : Keep (fault src n x) := by
  unfold fault
  repeat first | exact keep_pure | exact keep_fuel | exact keep_fail | exact keep_next | exact keep_see | exact keep_take | exact keep_must | exact keep_open | exact keep_shut | exact keep_word | exact keep_ref | exact keep_expr | exact keep_more | exact keep_number | exact keep_flag | exact keep_ends | exact keep_begin | exact keep_row | exact keep_end | exact keep_useOn _ _ | exact keep_groupOn _ _ | exact fun st a st' h => (keep_bind keep_next fun _ => keep_pure) st a st' h | refine keep_ite ?_ ?_ | refine keep_bind ?_ (fun _ => ?_) | split
theorem keep_runs {n : Nat} {x : ItemV} : Keep (runs src n x) := by
  unfold runs
  repeat first | exact keep_pure | exact keep_fuel | exact keep_fail | exact keep_next | exact keep_see | exact keep_take | exact keep_must | exact keep_open | exact keep_shut | exact keep_word | exact keep_ref | exact keep_expr | exact keep_more | exact keep_number | exact keep_flag | exact keep_ends | exact keep_begin | exact keep_row | exact keep_end | exact keep_useOn _ _ | exact keep_groupOn _ _ | exact fun st a st' h => (keep_bind keep_next fun _ => keep_pure) st a st' h | refine keep_ite ?_ ?_ | refine keep_bind ?_ (fun _ => ?_) | split
theorem keep_idle {n : Nat} {x : ItemV} : Keep (idle src n x) := by
  unfold idle
  repeat first | exact keep_pure | exact keep_fuel | exact keep_fail | exact keep_next | exact keep_see | exact keep_take | exact keep_must | exact keep_open | exact keep_shut | exact keep_word | exact keep_ref | exact keep_expr | exact keep_more | exact keep_number | exact keep_flag | exact keep_ends | exact keep_begin | exact keep_row | exact keep_end | exact keep_useOn _ _ | exact keep_groupOn _ _ | exact fun st a st' h => (keep_bind keep_next fun _ => keep_pure) st a st' h | refine keep_ite ?_ ?_ | refine keep_bind ?_ (fun _ => ?_) | split
theorem keep_needs {n : Nat} {x : ItemV} : Keep (needs src n x) := by
  unfold needs
  repeat first | exact keep_pure | exact keep_fuel | exact keep_fail | exact keep_next | exact keep_see | exact keep_take | exact keep_must | exact keep_open | exact keep_shut | exact keep_word | exact keep_ref | exact keep_expr | exact keep_more | exact keep_number | exact keep_flag | exact keep_ends | exact keep_begin | exact keep_row | exact keep_end | exact keep_useOn _ _ | exact keep_groupOn _ _ | exact fun st a st' h => (keep_bind keep_next fun _ => keep_pure) st a st' h | refine keep_ite ?_ ?_ | refine keep_bind ?_ (fun _ => ?_) | split
theorem keep_declOn {rd : Rd → ItemV → M ItemV} (h : ∀ r x, Keep (rd r x)) : ∀ ds, Keep (declOn src rd ds)
  | [] => by rw [declOn]; exact keep_fail
  | (w, k, r) :: ds => by
    rw [declOn]
    exact keep_bind keep_see fun _ => keep_ite (keep_bind keep_begin fun _ => keep_bind keep_row fun _ => keep_bind (h _ _) fun _ => keep_end) (keep_declOn h ds)
theorem keep_all : ∀ n, (∀ u, Keep (block src n u)) ∧ (∀ u l, Keep (blockOn src n u l)) ∧ (∀ u, Keep (one src n u)) ∧ Keep (group src n) ∧ (∀ u, Keep (inner src n u)) ∧ (∀ rd x, Keep (read src n rd x))
  | 0 => ⟨fun _ => by rw [block]; exact keep_fuel, fun _ _ => by rw [blockOn]; exact keep_fuel, fun _ => by rw [one]; exact keep_fuel, by rw [group]; exact keep_fuel, fun _ => by rw [inner]; exact keep_fuel, fun _ _ => by rw [read]; exact keep_fuel⟩
  | n + 1 => by
    obtain ⟨h1, h2, h3, h4, h5, h6⟩ := keep_all n
    refine ⟨fun u => ?_, fun u l => ?_, fun u => ?_, ?_, fun u => ?_, fun rd x => ?_⟩
    · rw [block]
      repeat first | exact keep_pure | exact h1 _ | exact h2 _ _ | exact h3 _ | exact h4 | exact h5 _ | exact h6 _ _ | exact keep_declOn (fun r x => h6 r x) _ | exact keep_fuel | exact keep_fail | exact keep_next | exact keep_see | exact keep_take | exact keep_must | exact keep_open | exact keep_shut | exact keep_word | exact keep_ref | exact keep_expr | exact keep_more | exact keep_number | exact keep_flag | exact keep_ends | exact keep_begin | exact keep_row | exact keep_end | exact keep_useOn _ _ | exact keep_groupOn _ _ | exact fun st a st' h => (keep_bind keep_next fun _ => keep_pure) st a st' h | refine keep_ite ?_ ?_ | refine keep_bind ?_ (fun _ => ?_) | split
    · rw [blockOn]
      repeat first | exact keep_pure | exact h1 _ | exact h2 _ _ | exact h3 _ | exact h4 | exact h5 _ | exact h6 _ _ | exact keep_declOn (fun r x => h6 r x) _ | exact keep_fuel | exact keep_fail | exact keep_next | exact keep_see | exact keep_take | exact keep_must | exact keep_open | exact keep_shut | exact keep_word | exact keep_ref | exact keep_expr | exact keep_more | exact keep_number | exact keep_flag | exact keep_ends | exact keep_begin | exact keep_row | exact keep_end | exact keep_useOn _ _ | exact keep_groupOn _ _ | exact fun st a st' h => (keep_bind keep_next fun _ => keep_pure) st a st' h | refine keep_ite ?_ ?_ | refine keep_bind ?_ (fun _ => ?_) | split
    · rw [one]
      repeat first | exact keep_pure | exact h1 _ | exact h2 _ _ | exact h3 _ | exact h4 | exact h5 _ | exact h6 _ _ | exact keep_declOn (fun r x => h6 r x) _ | exact keep_fuel | exact keep_fail | exact keep_next | exact keep_see | exact keep_take | exact keep_must | exact keep_open | exact keep_shut | exact keep_word | exact keep_ref | exact keep_expr | exact keep_more | exact keep_number | exact keep_flag | exact keep_ends | exact keep_begin | exact keep_row | exact keep_end | exact keep_useOn _ _ | exact keep_groupOn _ _ | exact fun st a st' h => (keep_bind keep_next fun _ => keep_pure) st a st' h | refine keep_ite ?_ ?_ | refine keep_bind ?_ (fun _ => ?_) | split
    · rw [group]
      repeat first | exact keep_pure | exact h1 _ | exact h2 _ _ | exact h3 _ | exact h4 | exact h5 _ | exact h6 _ _ | exact keep_declOn (fun r x => h6 r x) _ | exact keep_fuel | exact keep_fail | exact keep_next | exact keep_see | exact keep_take | exact keep_must | exact keep_open | exact keep_shut | exact keep_word | exact keep_ref | exact keep_expr | exact keep_more | exact keep_number | exact keep_flag | exact keep_ends | exact keep_begin | exact keep_row | exact keep_end | exact keep_useOn _ _ | exact keep_groupOn _ _ | exact fun st a st' h => (keep_bind keep_next fun _ => keep_pure) st a st' h | refine keep_ite ?_ ?_ | refine keep_bind ?_ (fun _ => ?_) | split
    · rw [inner]
      repeat first | exact keep_pure | exact h1 _ | exact h2 _ _ | exact h3 _ | exact h4 | exact h5 _ | exact h6 _ _ | exact keep_declOn (fun r x => h6 r x) _ | exact keep_fuel | exact keep_fail | exact keep_next | exact keep_see | exact keep_take | exact keep_must | exact keep_open | exact keep_shut | exact keep_word | exact keep_ref | exact keep_expr | exact keep_more | exact keep_number | exact keep_flag | exact keep_ends | exact keep_begin | exact keep_row | exact keep_end | exact keep_useOn _ _ | exact keep_groupOn _ _ | exact fun st a st' h => (keep_bind keep_next fun _ => keep_pure) st a st' h | refine keep_ite ?_ ?_ | refine keep_bind ?_ (fun _ => ?_) | split
    · cases rd <;> rw [read]
      · exact keep_use
      · exact keep_ram
      · repeat first | exact keep_pure | exact h1 _ | exact h2 _ _ | exact h3 _ | exact h4 | exact h5 _ | exact h6 _ _ | exact keep_declOn (fun r x => h6 r x) _ | exact keep_fuel | exact keep_fail | exact keep_next | exact keep_see | exact keep_take | exact keep_must | exact keep_open | exact keep_shut | exact keep_word | exact keep_ref | exact keep_expr | exact keep_more | exact keep_number | exact keep_flag | exact keep_ends | exact keep_begin | exact keep_row | exact keep_end | exact keep_useOn _ _ | exact keep_groupOn _ _ | exact fun st a st' h => (keep_bind keep_next fun _ => keep_pure) st a st' h | refine keep_ite ?_ ?_ | refine keep_bind ?_ (fun _ => ?_) | split
      · exact keep_region
      · repeat first | exact keep_pure | exact h1 _ | exact h2 _ _ | exact h3 _ | exact h4 | exact h5 _ | exact h6 _ _ | exact keep_declOn (fun r x => h6 r x) _ | exact keep_fuel | exact keep_fail | exact keep_next | exact keep_see | exact keep_take | exact keep_must | exact keep_open | exact keep_shut | exact keep_word | exact keep_ref | exact keep_expr | exact keep_more | exact keep_number | exact keep_flag | exact keep_ends | exact keep_begin | exact keep_row | exact keep_end | exact keep_useOn _ _ | exact keep_groupOn _ _ | exact fun st a st' h => (keep_bind keep_next fun _ => keep_pure) st a st' h | refine keep_ite ?_ ?_ | refine keep_bind ?_ (fun _ => ?_) | split
      · exact keep_channel
      · exact keep_irq
      · repeat first | exact keep_pure | exact h1 _ | exact h2 _ _ | exact h3 _ | exact h4 | exact h5 _ | exact h6 _ _ | exact keep_declOn (fun r x => h6 r x) _ | exact keep_fuel | exact keep_fail | exact keep_next | exact keep_see | exact keep_take | exact keep_must | exact keep_open | exact keep_shut | exact keep_word | exact keep_ref | exact keep_expr | exact keep_more | exact keep_number | exact keep_flag | exact keep_ends | exact keep_begin | exact keep_row | exact keep_end | exact keep_useOn _ _ | exact keep_groupOn _ _ | exact fun st a st' h => (keep_bind keep_next fun _ => keep_pure) st a st' h | refine keep_ite ?_ ?_ | refine keep_bind ?_ (fun _ => ?_) | split
      · exact keep_pick
      · exact keep_queue
      · exact keep_sample
      · exact keep_forbid
      · exact keep_mapping
      · exact keep_fault
      · repeat first | exact keep_pure | exact h1 _ | exact h2 _ _ | exact h3 _ | exact h4 | exact h5 _ | exact h6 _ _ | exact keep_declOn (fun r x => h6 r x) _ | exact keep_fuel | exact keep_fail | exact keep_next | exact keep_see | exact keep_take | exact keep_must | exact keep_open | exact keep_shut | exact keep_word | exact keep_ref | exact keep_expr | exact keep_more | exact keep_number | exact keep_flag | exact keep_ends | exact keep_begin | exact keep_row | exact keep_end | exact keep_useOn _ _ | exact keep_groupOn _ _ | exact fun st a st' h => (keep_bind keep_next fun _ => keep_pure) st a st' h | refine keep_ite ?_ ?_ | refine keep_bind ?_ (fun _ => ?_) | split
      · exact keep_runs
      · exact keep_idle
      · exact keep_needs
end
end Bk
