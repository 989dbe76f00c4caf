/- Closed facts on a program's types and functions, as classes: found by the types' numbers. -/
import Derived.Calls
import Derived.KernelRfl
import Derived.Laws.StructEq
namespace Go.Proofs.YtaeefjcbmkiiaaaGreatDoor.Sl
open Go
/-! ### closed facts on types, found by their numbers -/
def aggOf (P : Program) (T : TypeId) : Option Bool := match P.underlying T with | some (.struct _) => some true | some (.array _ _) => some true | some _ => some false | none => none
def szOf (P : Program) (T : TypeId) : Option Nat := (P.info? T).map (·.size)
class TSc (P : Program) (T : TypeId) : Prop where
  a : aggOf P T = some false
  s : szOf P T = some 1
class TAgg (P : Program) (T : TypeId) (n : outParam Nat) : Prop where
  a : aggOf P T = some true
  s : szOf P T = some n
class TZero (P : Program) (T : TypeId) (z : outParam Value) : Prop where
  z : (P.info? T).bind (·.zero) = some z
def foffOf (P : Program) (T i : Nat) : Option (Nat × Nat) := match P.underlying T with
  | some (.struct fs) => match fs[i]? with | some f => (szOf P f.type).map fun s => (f.offset, s) | none => none
  | _ => none
class FOff (P : Program) (T i : Nat) (off : outParam Nat) : Prop where
  h : ∃ s, foffOf P T i = some (off, s + 1)
class TInt (P : Program) (T : TypeId) (k : outParam IntKind) : Prop where
  h : P.underlying T = some (.int k)
class TStr (P : Program) (T : TypeId) : Prop where
  h : P.underlying T = some .string
class TBool (P : Program) (T : TypeId) : Prop where
  h : P.underlying T = some .bool
class TPtr (P : Program) (T : TypeId) (E : outParam TypeId) : Prop where
  h : P.underlying T = some (.pointer E)
class TSlice (P : Program) (T : TypeId) (E : outParam TypeId) : Prop where
  h : P.underlying T = some (.slice E)
class TMap (P : Program) (T : TypeId) (K E : outParam TypeId) : Prop where
  h : P.underlying T = some (.map K E)
class ESize (P : Program) (E : TypeId) (sz : outParam Nat) (bytes : outParam Nat) : Prop where
  h : (P.info? E).map (fun i => (i.size, i.bytes)) = some (sz, bytes)
/-- A function with a body. -/
class IsFn (P : Program) (f : FuncId) : Prop where
  h : ∃ fn, P.funcs[f]? = some fn ∧ (fn.name == "runtime.NumGoroutine") = false ∧ fn.body.isNone = false

def scalarB (P : Program) (T : TypeId) : Bool := match P.underlying T with | some (.int _) | some .bool | some .string => true | _ => false
def flatFields (P : Program) : Nat → List Field → Bool
  | _, [] => true
  | i, f :: fs => f.name != "_" && f.offset == i && scalarB P f.type && flatFields P (i + 1) fs
/-- A struct whose fields are numbers, bools and strings, of which the kinds are these. -/
class TFlat (P : Program) (T : TypeId) : Prop where
  u : P.underlying T = some (.struct (P.fieldsOf T))
  s : P.stoodInHeld T = false
  g : P.eqGuardType P.depth T = false
  f : flatFields P 0 (P.fieldsOf T).toList = true
/-- The kinds of a flat struct's fields. -/
inductive FK where
  | int (k : IntKind)
  | bool
  | str
def fkOf (P : Program) (T : TypeId) : Option FK := match P.underlying T with | some (.int k) => some (.int k) | some .bool => some .bool | some .string => some .str | _ => none
def fitK : List FK → List Value → List Value → Bool
  | .int _ :: ks, .int a _ :: xs, .int b _ :: ys => a == b && fitK ks xs ys
  | .bool :: ks, .bool _ :: xs, .bool _ :: ys => fitK ks xs ys
  | .str :: ks, .string _ :: xs, .string _ :: ys => fitK ks xs ys
  | [], [], [] => true
  | _, _, _ => false
class TFlatK (P : Program) (T : TypeId) (ks : outParam (List FK)) : Prop extends TFlat P T where
  k : (P.fieldsOf T).toList.map (fun f => fkOf P f.type) = ks.map some
theorem TFlatK.len {P : Program} {T : TypeId} {ks : List FK} (h : TFlatK P T ks) : (P.fieldsOf T).toList.length = ks.length := by
  have := congrArg List.length h.k
  simpa using this
/-- Where a struct's fields lie. -/
class TPlaces (P : Program) (T : TypeId) (pl : outParam (List (Nat × Nat))) : Prop where
  h : ∃ fs, P.underlying T = some (.struct fs) ∧ fs.toList.map (fun f => (f.offset, (szOf P f.type).getD 0)) = pl ∧ fs.toList.all (fun f => (szOf P f.type).isSome) = true
end Go.Proofs.YtaeefjcbmkiiaaaGreatDoor.Sl
