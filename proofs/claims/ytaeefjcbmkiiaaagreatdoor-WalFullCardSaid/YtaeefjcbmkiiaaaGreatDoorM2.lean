/- The log on a disk: its entries, its segments, what is laid down: plain. -/
import Derived.Test.YtaeefjcbmkiiaaaGreatDoorM1
import Derived.Lib.ItoaNum
namespace Go.Proofs.YtaeefjcbmkiiaaaGreatDoor
open Go Sl
set_option linter.unusedVariables false

structure Ent where
  index : Int
  term : Int
  kind : Int
  data : List UInt8
  deriving DecidableEq
structure Hrd where
  term : Int
  vote : Int
  deriving DecidableEq
structure Seg where
  number : Int
  size : Int
  top : Int
  deriving DecidableEq
structure LogS where
  hard : Hrd
  ents : List Ent
  segs : List Seg
def I64 (n : Int) : Prop := -9223372036854775808 ≤ n ∧ n ≤ 9223372036854775807
instance (n : Int) : Decidable (I64 n) := by unfold I64; infer_instance
def Ent.right (e : Ent) : Bool := decide (0 < e.index) && decide (0 ≤ e.term) && decide (1 ≤ e.kind) && decide (e.kind ≤ 3)
structure Ent.In (e : Ent) : Prop where
  i : I64 e.index
  t : I64 e.term
  k : I64 e.kind
structure Hrd.In (h : Hrd) : Prop where
  t : I64 h.term
  v : I64 h.vote
def hardText (h : Hrd) : List UInt8 := encInts [1, h.term, h.vote]
def entText (e : Ent) : List UInt8 := encInts [2, e.index, e.term, e.kind] ++ encTexts [e.data]
def resetText : List UInt8 := encInts [3]
def segName (n : Nat) : Nm := 119 :: Lib.decDigits n
abbrev Ent.none : Ent := ⟨0, 0, 0, []⟩
abbrev Seg.none : Seg := ⟨0, 0, 0⟩
/-- The last one. -/
def lastE (l : List Ent) : Ent := l.getD ((l.length : Int) - 1).toNat .none
def headE (l : List Ent) : Ent := l.getD (0 : Int).toNat .none
def lastS (l : List Seg) : Seg := l.getD ((l.length : Int) - 1).toNat .none
/-- An entry put where it belongs. -/
def putE (l : List Ent) (e : Ent) : List Ent :=
  if (l.length : Int) = 0 ∨ IntKind.i64.wrap ((lastE l).index + 1) < e.index ∨ e.index < (headE l).index then [e] else l.take (e.index - (headE l).index).toNat ++ [e]
def setLast (s : List Seg) (q : Seg) : List Seg := s.set ((s.length : Int) - 1).toNat q
def setTop (s : List Seg) (i : Int) : List Seg := setLast s { lastS s with top := max (lastS s).top i }
def LogS.put (W : LogS) (e : Ent) : LogS := { W with ents := putE W.ents e, segs := setTop W.segs e.index }
/-- Entries rise by one; none is beyond what a number holds. -/
structure Rise (l : List Ent) : Prop where
  up : ∀ i, i < l.length → (l.getD i .none).index = (l.getD 0 .none).index + i
  in_ : ∀ e ∈ l, e.In
  pos : ∀ e ∈ l, 0 < e.index
end Go.Proofs.YtaeefjcbmkiiaaaGreatDoor
