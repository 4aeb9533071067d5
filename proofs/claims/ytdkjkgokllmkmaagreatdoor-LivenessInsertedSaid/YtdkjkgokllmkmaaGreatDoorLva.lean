/- The plain side of the liveness laws: functions as data, points, uses, what is live. No Go, no memory. -/
namespace Go.Proofs.YtdkjkgokllmkmaaGreatDoor.Lv

inductive Ty where
  | mk (kind id : Int) (args : List Ty)
def Ty.kind : Ty → Int | .mk k _ _ => k
def Ty.id : Ty → Int | .mk _ i _ => i
def Ty.args : Ty → List Ty | .mk _ _ a => a
def Ty.zero : Ty := .mk 0 0 []
instance : Inhabited Ty := ⟨Ty.zero⟩

structure Ins where
  op : Int
  dst : Int
  a : Int
  b : Int
  n : Int
  args : List Int
  types : List Ty
  deriving Inhabited
structure Term where
  kind : Int
  a : Int
  targets : List Int
  deriving Inhabited
structure Blk where
  code : List Ins
  fin : Term
  deriving Inhabited
structure Fn where
  name : ByteArray
  mod : Int
  params : Int
  bounds : List (Int × Int)
  arity : Int
  result : Ty
  locals : List Ty
  blocks : List Blk
  ties : List Int
structure Us where
  copies : List Int
  moves : List Int
  shares : List Int
  lends : List Int
  defs : List Int

def copyable (k : Int) : Bool := k == 1 || k == 4 || k == 7
def Fn.nl (F : Fn) : Nat := F.locals.length
def Fn.nb (F : Fn) : Nat := F.blocks.length
/-- The kind of a local; 0 if there is none. -/
def kindOf (F : Fn) (n : Int) : Int := if 0 ≤ n ∧ n < F.locals.length then (F.locals.getD n.toNat default).kind else 0
def take1 (F : Fn) (u : Us) (n : Int) : Us := if copyable (kindOf F n) then { u with copies := u.copies ++ [n] } else { u with moves := u.moves ++ [n] }
def takes (F : Fn) (u : Us) (l : List Int) : Us := l.foldl (take1 F) u
def u0 : Us := ⟨[], [], [], [], []⟩
def lent (F : Fn) (a by_ : Int) (defs : List Int) : Us := if kindOf F by_ == 7 then ⟨[], [], [a], [], defs⟩ else ⟨[], [], [], [a], defs⟩

def usesOf (F : Fn) (x : Ins) : Us :=
  if x.op = 1 ∨ x.op = 22 ∨ x.op = 24 then ⟨[], [], [], [], [x.dst]⟩
  else if x.op = 2 ∨ x.op = 3 ∨ x.op = 4 ∨ x.op = 5 ∨ x.op = 6 then ⟨[x.a, x.b], [], [], [], [x.dst]⟩
  else if x.op = 7 ∨ x.op = 10 then takes F ⟨[], [], [], [], [x.dst]⟩ [x.a]
  else if x.op = 8 ∨ x.op = 19 ∨ x.op = 20 then takes F ⟨[], [], [], [], [x.dst]⟩ x.args
  else if x.op = 9 then ⟨[], [x.a], [], [], x.args⟩
  else if x.op = 11 then ⟨[], [x.a], [], [], [x.dst]⟩
  else if x.op = 12 ∨ x.op = 13 ∨ x.op = 14 then lent F x.a x.dst [x.dst]
  else if x.op = 15 then lent F x.a x.a x.args
  else if x.op = 16 ∨ x.op = 26 then ⟨[x.a], [], [], [], [x.dst]⟩
  else if x.op = 17 then takes F ⟨[], [], [], [x.a], []⟩ [x.b]
  else if x.op = 18 then ⟨[], [x.a], [], [], []⟩
  else if x.op = 21 then ⟨[x.a], [], [], [], []⟩
  else if x.op = 23 then takes F ⟨[x.a], [], [], [], [x.dst]⟩ [x.b]
  else if x.op = 25 then takes F ⟨[x.a], [], [], [], []⟩ [x.b]
  else if x.op = 27 then takes F u0 x.args
  else if x.op = 28 then ⟨[], [], [], [], [x.b]⟩
  else if x.op = 29 then ⟨[x.b], [x.a], [], [], []⟩
  else u0
def endsOf (F : Fn) (t : Term) : Us :=
  if t.kind = 2 ∨ t.kind = 3 then ⟨[t.a], [], [], [], []⟩
  else if t.kind = 4 then takes F u0 [t.a]
  else u0

def Us.used (u : Us) (v : Nat) : Bool := decide ((v : Int) ∈ u.copies) || decide ((v : Int) ∈ u.moves) || decide ((v : Int) ∈ u.shares) || decide ((v : Int) ∈ u.lends)
def Us.defd (u : Us) (v : Nat) : Bool := decide ((v : Int) ∈ u.defs)

def Fn.blk (F : Fn) (b : Nat) : Blk := F.blocks.getD b default
def atB (F : Fn) (B : Blk) (i : Nat) : Us := if i < B.code.length then usesOf F (B.code.getD i default) else endsOf F B.fin
def at_ (F : Fn) (p : Nat × Nat) : Us := atB F (F.blk p.1) p.2
def tgts (F : Fn) (l : List Int) : List (Nat × Nat) := l.filterMap fun (t : Int) => if 0 ≤ t ∧ t < F.blocks.length then some (t.toNat, 0) else none
def next (F : Fn) (p : Nat × Nat) : List (Nat × Nat) :=
  if p.2 < (F.blk p.1).code.length then [(p.1, p.2 + 1)] else tgts F (F.blk p.1).fin.targets

inductive Live (F : Fn) (v : Nat) : Nat × Nat → Prop
  | use {p} (h : (at_ F p).used v = true) : Live F v p
  | pass {p q} (hd : (at_ F p).defd v = false) (hq : q ∈ next F p) (h : Live F v q) : Live F v p

theorem live_iff {F : Fn} {v : Nat} {p : Nat × Nat} : Live F v p ↔ (at_ F p).used v = true ∨ (at_ F p).defd v = false ∧ ∃ q, q ∈ next F p ∧ Live F v q := by
  constructor
  · intro h
    cases h with
    | use h => exact .inl h
    | pass hd hq h => exact .inr ⟨hd, _, hq, h⟩
  · rintro (h | ⟨hd, q, hq, h⟩)
    · exact .use h
    · exact .pass hd hq h
/-- The live sets are the least that contain what is used and are closed backwards. -/
theorem live_least {F : Fn} {v : Nat} (S : Nat × Nat → Prop) (hS : ∀ p, ((at_ F p).used v = true ∨ (at_ F p).defd v = false ∧ ∃ q, q ∈ next F p ∧ S q) → S p) {p : Nat × Nat} (h : Live F v p) : S p := by
  induction h with
  | use h => exact hS _ (.inl h)
  | pass hd hq _ ih => exact hS _ (.inr ⟨hd, _, hq, ih⟩)

open Classical in
noncomputable def liveB (F : Fn) (p : Nat × Nat) (v : Nat) : Bool := decide (Live F v p)
theorem liveB_iff {F : Fn} {p : Nat × Nat} {v : Nat} : liveB F p v = true ↔ Live F v p := by simp [liveB]
noncomputable def afterB (F : Fn) (p : Nat × Nat) (v : Nat) : Bool := (next F p).any fun q => liveB F q v
theorem liveB_eq (F : Fn) (p : Nat × Nat) (v : Nat) : liveB F p v = ((at_ F p).used v || (!(at_ F p).defd v && afterB F p v)) := by
  rw [Bool.eq_iff_iff, liveB_iff, live_iff]
  simp [afterB, liveB_iff]

/-- The points of a function, in order. -/
def ptsB (b : Nat) (B : Blk) : List (Nat × Nat) := (List.range (B.code.length + 1)).map fun i => (b, i)
def ptsFrom (b : Nat) : List Blk → List (Nat × Nat)
  | [] => []
  | B :: l => ptsB b B ++ ptsFrom (b + 1) l
def pts (F : Fn) : List (Nat × Nat) := ptsFrom 0 F.blocks
def isPt (F : Fn) (p : Nat × Nat) : Prop := p.1 < F.nb ∧ p.2 ≤ (F.blk p.1).code.length
noncomputable def before (F : Fn) : List (List Bool) := (pts F).map fun p => (List.range F.nl).map (liveB F p)
noncomputable def after (F : Fn) : List (List Bool) := (pts F).map fun p => (List.range F.nl).map (afterB F p)
end Go.Proofs.YtdkjkgokllmkmaaGreatDoor.Lv
