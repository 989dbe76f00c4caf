/- Closed facts on a program's types and functions, as classes: found by the types' numbers. -/
import Derived.Calls
import Derived.KernelRfl
import Derived.Laws.StructEq
import Derived.Test.YtaeefjcbmkiiaaaGreatDoorProg
import Derived.Below
import Derived.Laws.World
import Derived.Orders
import Derived.Laws.Sem
set_option linter.unusedVariables false
set_option linter.unusedSimpArgs false
namespace Go.Proofs.YtaeefjcbmkiiaaaGreatDoor.Sl
open Go
/-! ### closed facts on types, found by their numbers -/
def aggOf (P : Program) (T : TypeId) : Option Bool := match P.underlying T with | some (.struct _) => some true | some (.array _ _) => some true | some _ => some false | none => none
def szOf (P : Program) (T : TypeId) : Option Nat := (P.info? T).map (·.size)
class TSc (P : Program) (T : TypeId) : Prop where
  a : aggOf P T = some false
  s : szOf P T = some 1
class TAgg (P : Program) (T : TypeId) (n : outParam Nat) : Prop where
  a : aggOf P T = some true
  s : szOf P T = some n
class TZero (P : Program) (T : TypeId) (z : outParam Value) : Prop where
  z : (P.info? T).bind (·.zero) = some z
def foffOf (P : Program) (T i : Nat) : Option (Nat × Nat) := match P.underlying T with
  | some (.struct fs) => match fs[i]? with | some f => (szOf P f.type).map fun s => (f.offset, s) | none => none
  | _ => none
class FOff (P : Program) (T i : Nat) (off : outParam Nat) : Prop where
  h : ∃ s, foffOf P T i = some (off, s + 1)
class TInt (P : Program) (T : TypeId) (k : outParam IntKind) : Prop where
  h : P.underlying T = some (.int k)
class TStr (P : Program) (T : TypeId) : Prop where
  h : P.underlying T = some .string
class TBool (P : Program) (T : TypeId) : Prop where
  h : P.underlying T = some .bool
class TPtr (P : Program) (T : TypeId) (E : outParam TypeId) : Prop where
  h : P.underlying T = some (.pointer E)
class TSlice (P : Program) (T : TypeId) (E : outParam TypeId) : Prop where
  h : P.underlying T = some (.slice E)
class TMap (P : Program) (T : TypeId) (K E : outParam TypeId) : Prop where
  h : P.underlying T = some (.map K E)
class ESize (P : Program) (E : TypeId) (sz : outParam Nat) (bytes : outParam Nat) : Prop where
  h : (P.info? E).map (fun i => (i.size, i.bytes)) = some (sz, bytes)
/-- A function with a body. -/
class IsFn (P : Program) (f : FuncId) : Prop where
  h : ∃ fn, P.funcs[f]? = some fn ∧ (fn.name == "runtime.NumGoroutine") = false ∧ fn.body.isNone = false

def scalarB (P : Program) (T : TypeId) : Bool := match P.underlying T with | some (.int _) | some .bool | some .string => true | _ => false
def flatFields (P : Program) : Nat → List Field → Bool
  | _, [] => true
  | i, f :: fs => f.name != "_" && f.offset == i && scalarB P f.type && flatFields P (i + 1) fs
/-- A struct whose fields are numbers, bools and strings, of which the kinds are these. -/
class TFlat (P : Program) (T : TypeId) : Prop where
  u : P.underlying T = some (.struct (P.fieldsOf T))
  s : P.stoodInHeld T = false
  g : P.eqGuardType P.depth T = false
  f : flatFields P 0 (P.fieldsOf T).toList = true
/-- The kinds of a flat struct's fields. -/
inductive FK where
  | int (k : IntKind)
  | bool
  | str
def fkOf (P : Program) (T : TypeId) : Option FK := match P.underlying T with | some (.int k) => some (.int k) | some .bool => some .bool | some .string => some .str | _ => none
def fitK : List FK → List Value → List Value → Bool
  | .int _ :: ks, .int a _ :: xs, .int b _ :: ys => a == b && fitK ks xs ys
  | .bool :: ks, .bool _ :: xs, .bool _ :: ys => fitK ks xs ys
  | .str :: ks, .string _ :: xs, .string _ :: ys => fitK ks xs ys
  | [], [], [] => true
  | _, _, _ => false
class TFlatK (P : Program) (T : TypeId) (ks : outParam (List FK)) : Prop extends TFlat P T where
  k : (P.fieldsOf T).toList.map (fun f => fkOf P f.type) = ks.map some
theorem TFlatK.len {P : Program} {T : TypeId} {ks : List FK} (h : TFlatK P T ks) : (P.fieldsOf T).toList.length = ks.length := by
  have := congrArg List.length h.k
  simpa using this
/-- Where a struct's fields lie. -/
class TPlaces (P : Program) (T : TypeId) (pl : outParam (List (Nat × Nat))) : Prop where
  h : ∃ fs, P.underlying T = some (.struct fs) ∧ fs.toList.map (fun f => (f.offset, (szOf P f.type).getD 0)) = pl ∧ fs.toList.all (fun f => (szOf P f.type).isSome) = true
end Go.Proofs.YtaeefjcbmkiiaaaGreatDoor.Sl
/- Facts on the translation's types and functions, by their numbers: made by gen_types.py off the translation's table; each is checked by the kernel. -/
namespace Go.Proofs.YtaeefjcbmkiiaaaGreatDoor
open Go Sl
theorem follows : Tryz.prog.follows .mixedOrders = true := by kernel_rfl
-- 1: func()
instance : TSc Tryz.prog 1 := ⟨by kernel_rfl, by kernel_rfl⟩
instance : TZero Tryz.prog 1 (.nilFunc) := ⟨by kernel_rfl⟩
instance : ESize Tryz.prog 1 1 8 := ⟨by kernel_rfl⟩
-- 2: int64
instance : TSc Tryz.prog 2 := ⟨by kernel_rfl, by kernel_rfl⟩
instance : TInt Tryz.prog 2 .i64 := ⟨by kernel_rfl⟩
instance : TZero Tryz.prog 2 (.int .i64 0) := ⟨by kernel_rfl⟩
instance : ESize Tryz.prog 2 1 8 := ⟨by kernel_rfl⟩
-- 3: int
instance : TSc Tryz.prog 3 := ⟨by kernel_rfl, by kernel_rfl⟩
instance : TInt Tryz.prog 3 .i64 := ⟨by kernel_rfl⟩
instance : TZero Tryz.prog 3 (.int .i64 0) := ⟨by kernel_rfl⟩
instance : ESize Tryz.prog 3 1 8 := ⟨by kernel_rfl⟩
-- 4: bool
instance : TSc Tryz.prog 4 := ⟨by kernel_rfl, by kernel_rfl⟩
instance : TBool Tryz.prog 4 := ⟨by kernel_rfl⟩
instance : TZero Tryz.prog 4 (.bool false) := ⟨by kernel_rfl⟩
instance : ESize Tryz.prog 4 1 1 := ⟨by kernel_rfl⟩
-- 5: uint8
instance : TSc Tryz.prog 5 := ⟨by kernel_rfl, by kernel_rfl⟩
instance : TInt Tryz.prog 5 .u8 := ⟨by kernel_rfl⟩
instance : TZero Tryz.prog 5 (.int .u8 0) := ⟨by kernel_rfl⟩
instance : ESize Tryz.prog 5 1 1 := ⟨by kernel_rfl⟩
-- 6: abi.BoundsErrorCode
instance : TSc Tryz.prog 6 := ⟨by kernel_rfl, by kernel_rfl⟩
instance : TInt Tryz.prog 6 .u8 := ⟨by kernel_rfl⟩
instance : TZero Tryz.prog 6 (.int .u8 0) := ⟨by kernel_rfl⟩
instance : ESize Tryz.prog 6 1 1 := ⟨by kernel_rfl⟩
-- 7: struct { x int64; y int; signed bool; code abi.BoundsErrorCode }
instance : TAgg Tryz.prog 7 4 := ⟨by kernel_rfl, by kernel_rfl⟩
instance : FOff Tryz.prog 7 0 0 := ⟨0, by kernel_rfl⟩
instance : FOff Tryz.prog 7 1 1 := ⟨0, by kernel_rfl⟩
instance : FOff Tryz.prog 7 2 2 := ⟨0, by kernel_rfl⟩
instance : FOff Tryz.prog 7 3 3 := ⟨0, by kernel_rfl⟩
instance : TPlaces Tryz.prog 7 [(0, 1), (1, 1), (2, 1), (3, 1)] := ⟨Tryz.prog.fieldsOf 7, by kernel_rfl, by kernel_rfl, by kernel_rfl⟩
instance : TFlatK Tryz.prog 7 [.int .i64, .int .i64, .bool, .int .u8] := { u := by kernel_rfl, s := by kernel_rfl, g := by kernel_rfl, f := by kernel_rfl, k := by kernel_rfl }
instance : TZero Tryz.prog 7 (.agg #[.int .i64 0, .int .i64 0, .bool false, .int .u8 0]) := ⟨by kernel_rfl⟩
instance : ESize Tryz.prog 7 4 24 := ⟨by kernel_rfl⟩
-- 8: runtime.boundsError
instance : TAgg Tryz.prog 8 4 := ⟨by kernel_rfl, by kernel_rfl⟩
instance : FOff Tryz.prog 8 0 0 := ⟨0, by kernel_rfl⟩
instance : FOff Tryz.prog 8 1 1 := ⟨0, by kernel_rfl⟩
instance : FOff Tryz.prog 8 2 2 := ⟨0, by kernel_rfl⟩
instance : FOff Tryz.prog 8 3 3 := ⟨0, by kernel_rfl⟩
instance : TPlaces Tryz.prog 8 [(0, 1), (1, 1), (2, 1), (3, 1)] := ⟨Tryz.prog.fieldsOf 8, by kernel_rfl, by kernel_rfl, by kernel_rfl⟩
instance : TZero Tryz.prog 8 (.agg #[.int .i64 0, .int .i64 0, .bool false, .int .u8 0]) := ⟨by kernel_rfl⟩
instance : ESize Tryz.prog 8 4 24 := ⟨by kernel_rfl⟩
-- 9: string
instance : TSc Tryz.prog 9 := ⟨by kernel_rfl, by kernel_rfl⟩
instance : TStr Tryz.prog 9 := ⟨by kernel_rfl⟩
instance : TZero Tryz.prog 9 (.string ⟨#[]⟩) := ⟨by kernel_rfl⟩
instance : ESize Tryz.prog 9 1 16 := ⟨by kernel_rfl⟩
-- 10: runtime.errorString
instance : TSc Tryz.prog 10 := ⟨by kernel_rfl, by kernel_rfl⟩
instance : TStr Tryz.prog 10 := ⟨by kernel_rfl⟩
instance : TZero Tryz.prog 10 (.string ⟨#[]⟩) := ⟨by kernel_rfl⟩
instance : ESize Tryz.prog 10 1 16 := ⟨by kernel_rfl⟩
-- 11: runtime.plainError
instance : TSc Tryz.prog 11 := ⟨by kernel_rfl, by kernel_rfl⟩
instance : TStr Tryz.prog 11 := ⟨by kernel_rfl⟩
instance : TZero Tryz.prog 11 (.string ⟨#[]⟩) := ⟨by kernel_rfl⟩
instance : ESize Tryz.prog 11 1 16 := ⟨by kernel_rfl⟩
-- 12: uintptr
instance : TSc Tryz.prog 12 := ⟨by kernel_rfl, by kernel_rfl⟩
instance : TInt Tryz.prog 12 .u64 := ⟨by kernel_rfl⟩
instance : TZero Tryz.prog 12 (.int .u64 0) := ⟨by kernel_rfl⟩
instance : ESize Tryz.prog 12 1 8 := ⟨by kernel_rfl⟩
-- 13: struct { msg string; addr uintptr }
instance : TAgg Tryz.prog 13 2 := ⟨by kernel_rfl, by kernel_rfl⟩
instance : FOff Tryz.prog 13 0 0 := ⟨0, by kernel_rfl⟩
instance : FOff Tryz.prog 13 1 1 := ⟨0, by kernel_rfl⟩
instance : TPlaces Tryz.prog 13 [(0, 1), (1, 1)] := ⟨Tryz.prog.fieldsOf 13, by kernel_rfl, by kernel_rfl, by kernel_rfl⟩
instance : TZero Tryz.prog 13 (.agg #[.string ⟨#[]⟩, .int .u64 0]) := ⟨by kernel_rfl⟩
instance : ESize Tryz.prog 13 2 24 := ⟨by kernel_rfl⟩
-- 14: runtime.errorAddressString
instance : TAgg Tryz.prog 14 2 := ⟨by kernel_rfl, by kernel_rfl⟩
instance : FOff Tryz.prog 14 0 0 := ⟨0, by kernel_rfl⟩
instance : FOff Tryz.prog 14 1 1 := ⟨0, by kernel_rfl⟩
instance : TPlaces Tryz.prog 14 [(0, 1), (1, 1)] := ⟨Tryz.prog.fieldsOf 14, by kernel_rfl, by kernel_rfl, by kernel_rfl⟩
instance : TZero Tryz.prog 14 (.agg #[.string ⟨#[]⟩, .int .u64 0]) := ⟨by kernel_rfl⟩
instance : ESize Tryz.prog 14 2 24 := ⟨by kernel_rfl⟩
-- 15: *runtime.TypeAssertionError
instance : TSc Tryz.prog 15 := ⟨by kernel_rfl, by kernel_rfl⟩
instance : TPtr Tryz.prog 15 267 := ⟨by kernel_rfl⟩
instance : TZero Tryz.prog 15 (.pointer none) := ⟨by kernel_rfl⟩
instance : ESize Tryz.prog 15 1 8 := ⟨by kernel_rfl⟩
-- 16: *runtime.PanicNilError
instance : TSc Tryz.prog 16 := ⟨by kernel_rfl, by kernel_rfl⟩
instance : TPtr Tryz.prog 16 270 := ⟨by kernel_rfl⟩
instance : TZero Tryz.prog 16 (.pointer none) := ⟨by kernel_rfl⟩
instance : ESize Tryz.prog 16 1 8 := ⟨by kernel_rfl⟩
-- 17: *abi.Type
instance : TSc Tryz.prog 17 := ⟨by kernel_rfl, by kernel_rfl⟩
instance : TPtr Tryz.prog 17 277 := ⟨by kernel_rfl⟩
instance : TZero Tryz.prog 17 (.pointer none) := ⟨by kernel_rfl⟩
instance : ESize Tryz.prog 17 1 8 := ⟨by kernel_rfl⟩
-- 18: struct { typ *abi.Type }
instance : TAgg Tryz.prog 18 1 := ⟨by kernel_rfl, by kernel_rfl⟩
instance : FOff Tryz.prog 18 0 0 := ⟨0, by kernel_rfl⟩
instance : TPlaces Tryz.prog 18 [(0, 1)] := ⟨Tryz.prog.fieldsOf 18, by kernel_rfl, by kernel_rfl, by kernel_rfl⟩
instance : TZero Tryz.prog 18 (.agg #[.pointer none]) := ⟨by kernel_rfl⟩
instance : ESize Tryz.prog 18 1 8 := ⟨by kernel_rfl⟩
-- 19: maps.unhashableTypeError
instance : TAgg Tryz.prog 19 1 := ⟨by kernel_rfl, by kernel_rfl⟩
instance : FOff Tryz.prog 19 0 0 := ⟨0, by kernel_rfl⟩
instance : TPlaces Tryz.prog 19 [(0, 1)] := ⟨Tryz.prog.fieldsOf 19, by kernel_rfl, by kernel_rfl, by kernel_rfl⟩
instance : TZero Tryz.prog 19 (.agg #[.pointer none]) := ⟨by kernel_rfl⟩
instance : ESize Tryz.prog 19 1 8 := ⟨by kernel_rfl⟩
-- 20: interface {}
instance : TSc Tryz.prog 20 := ⟨by kernel_rfl, by kernel_rfl⟩
instance : TZero Tryz.prog 20 (.nilIface) := ⟨by kernel_rfl⟩
instance : ESize Tryz.prog 20 1 16 := ⟨by kernel_rfl⟩
-- 21: int32
instance : TSc Tryz.prog 21 := ⟨by kernel_rfl, by kernel_rfl⟩
instance : TInt Tryz.prog 21 .i32 := ⟨by kernel_rfl⟩
instance : TZero Tryz.prog 21 (.int .i32 0) := ⟨by kernel_rfl⟩
instance : ESize Tryz.prog 21 1 4 := ⟨by kernel_rfl⟩
-- 22: []kiosklaw3.Act
instance : TSc Tryz.prog 22 := ⟨by kernel_rfl, by kernel_rfl⟩
instance : TSlice Tryz.prog 22 34 := ⟨by kernel_rfl⟩
instance : TZero Tryz.prog 22 (.slice none 0 0) := ⟨by kernel_rfl⟩
instance : ESize Tryz.prog 22 1 24 := ⟨by kernel_rfl⟩
-- 23: func() bool
instance : TSc Tryz.prog 23 := ⟨by kernel_rfl, by kernel_rfl⟩
instance : TZero Tryz.prog 23 (.nilFunc) := ⟨by kernel_rfl⟩
instance : ESize Tryz.prog 23 1 8 := ⟨by kernel_rfl⟩
-- 24: func([]kiosklaw3.Act) bool
instance : TSc Tryz.prog 24 := ⟨by kernel_rfl, by kernel_rfl⟩
instance : TZero Tryz.prog 24 (.nilFunc) := ⟨by kernel_rfl⟩
instance : ESize Tryz.prog 24 1 8 := ⟨by kernel_rfl⟩
-- 25: *kiosklaw3.World
instance : TSc Tryz.prog 25 := ⟨by kernel_rfl, by kernel_rfl⟩
instance : TPtr Tryz.prog 25 38 := ⟨by kernel_rfl⟩
instance : TZero Tryz.prog 25 (.pointer none) := ⟨by kernel_rfl⟩
instance : ESize Tryz.prog 25 1 8 := ⟨by kernel_rfl⟩
-- 26: *kiosklaw3.Model
instance : TSc Tryz.prog 26 := ⟨by kernel_rfl, by kernel_rfl⟩
instance : TPtr Tryz.prog 26 45 := ⟨by kernel_rfl⟩
instance : TZero Tryz.prog 26 (.pointer none) := ⟨by kernel_rfl⟩
instance : ESize Tryz.prog 26 1 8 := ⟨by kernel_rfl⟩
-- 28: func(int) (*kiosklaw3.World, *kiosklaw3.Model, bool)
instance : TSc Tryz.prog 28 := ⟨by kernel_rfl, by kernel_rfl⟩
instance : TZero Tryz.prog 28 (.nilFunc) := ⟨by kernel_rfl⟩
instance : ESize Tryz.prog 28 1 8 := ⟨by kernel_rfl⟩
-- 29: func(int, int) int
instance : TSc Tryz.prog 29 := ⟨by kernel_rfl, by kernel_rfl⟩
instance : TZero Tryz.prog 29 (.nilFunc) := ⟨by kernel_rfl⟩
instance : ESize Tryz.prog 29 1 8 := ⟨by kernel_rfl⟩
-- 30: api.Errno
instance : TSc Tryz.prog 30 := ⟨by kernel_rfl, by kernel_rfl⟩
instance : TInt Tryz.prog 30 .i64 := ⟨by kernel_rfl⟩
instance : TZero Tryz.prog 30 (.int .i64 0) := ⟨by kernel_rfl⟩
instance : ESize Tryz.prog 30 1 8 := ⟨by kernel_rfl⟩
-- 31: func(kiosklaw3.Act) api.Errno
instance : TSc Tryz.prog 31 := ⟨by kernel_rfl, by kernel_rfl⟩
instance : TZero Tryz.prog 31 (.nilFunc) := ⟨by kernel_rfl⟩
instance : ESize Tryz.prog 31 1 8 := ⟨by kernel_rfl⟩
-- 32: []int
instance : TSc Tryz.prog 32 := ⟨by kernel_rfl, by kernel_rfl⟩
instance : TSlice Tryz.prog 32 3 := ⟨by kernel_rfl⟩
instance : TZero Tryz.prog 32 (.slice none 0 0) := ⟨by kernel_rfl⟩
instance : ESize Tryz.prog 32 1 24 := ⟨by kernel_rfl⟩
-- 33: struct { Op int; Term int; Vote int; Index int; N int; Data string; Keep []int; Noise []int }
instance : TAgg Tryz.prog 33 8 := ⟨by kernel_rfl, by kernel_rfl⟩
instance : FOff Tryz.prog 33 0 0 := ⟨0, by kernel_rfl⟩
instance : FOff Tryz.prog 33 1 1 := ⟨0, by kernel_rfl⟩
instance : FOff Tryz.prog 33 2 2 := ⟨0, by kernel_rfl⟩
instance : FOff Tryz.prog 33 3 3 := ⟨0, by kernel_rfl⟩
instance : FOff Tryz.prog 33 4 4 := ⟨0, by kernel_rfl⟩
instance : FOff Tryz.prog 33 5 5 := ⟨0, by kernel_rfl⟩
instance : FOff Tryz.prog 33 6 6 := ⟨0, by kernel_rfl⟩
instance : FOff Tryz.prog 33 7 7 := ⟨0, by kernel_rfl⟩
instance : TPlaces Tryz.prog 33 [(0, 1), (1, 1), (2, 1), (3, 1), (4, 1), (5, 1), (6, 1), (7, 1)] := ⟨Tryz.prog.fieldsOf 33, by kernel_rfl, by kernel_rfl, by kernel_rfl⟩
instance : TZero Tryz.prog 33 (.agg #[.int .i64 0, .int .i64 0, .int .i64 0, .int .i64 0, .int .i64 0, .string ⟨#[]⟩, .slice none 0 0, .slice none 0 0]) := ⟨by kernel_rfl⟩
instance : ESize Tryz.prog 33 8 104 := ⟨by kernel_rfl⟩
-- 34: kiosklaw3.Act
instance : TAgg Tryz.prog 34 8 := ⟨by kernel_rfl, by kernel_rfl⟩
instance : FOff Tryz.prog 34 0 0 := ⟨0, by kernel_rfl⟩
instance : FOff Tryz.prog 34 1 1 := ⟨0, by kernel_rfl⟩
instance : FOff Tryz.prog 34 2 2 := ⟨0, by kernel_rfl⟩
instance : FOff Tryz.prog 34 3 3 := ⟨0, by kernel_rfl⟩
instance : FOff Tryz.prog 34 4 4 := ⟨0, by kernel_rfl⟩
instance : FOff Tryz.prog 34 5 5 := ⟨0, by kernel_rfl⟩
instance : FOff Tryz.prog 34 6 6 := ⟨0, by kernel_rfl⟩
instance : FOff Tryz.prog 34 7 7 := ⟨0, by kernel_rfl⟩
instance : TPlaces Tryz.prog 34 [(0, 1), (1, 1), (2, 1), (3, 1), (4, 1), (5, 1), (6, 1), (7, 1)] := ⟨Tryz.prog.fieldsOf 34, by kernel_rfl, by kernel_rfl, by kernel_rfl⟩
instance : TZero Tryz.prog 34 (.agg #[.int .i64 0, .int .i64 0, .int .i64 0, .int .i64 0, .int .i64 0, .string ⟨#[]⟩, .slice none 0 0, .slice none 0 0]) := ⟨by kernel_rfl⟩
instance : ESize Tryz.prog 34 8 104 := ⟨by kernel_rfl⟩
-- 35: *disk.Disk
instance : TSc Tryz.prog 35 := ⟨by kernel_rfl, by kernel_rfl⟩
instance : TPtr Tryz.prog 35 86 := ⟨by kernel_rfl⟩
instance : TZero Tryz.prog 35 (.pointer none) := ⟨by kernel_rfl⟩
instance : ESize Tryz.prog 35 1 8 := ⟨by kernel_rfl⟩
-- 36: *wal.Log
instance : TSc Tryz.prog 36 := ⟨by kernel_rfl, by kernel_rfl⟩
instance : TPtr Tryz.prog 36 92 := ⟨by kernel_rfl⟩
instance : TZero Tryz.prog 36 (.pointer none) := ⟨by kernel_rfl⟩
instance : ESize Tryz.prog 36 1 8 := ⟨by kernel_rfl⟩
-- 37: struct { D *disk.Disk; W *wal.Log }
instance : TAgg Tryz.prog 37 2 := ⟨by kernel_rfl, by kernel_rfl⟩
instance : FOff Tryz.prog 37 0 0 := ⟨0, by kernel_rfl⟩
instance : FOff Tryz.prog 37 1 1 := ⟨0, by kernel_rfl⟩
instance : TPlaces Tryz.prog 37 [(0, 1), (1, 1)] := ⟨Tryz.prog.fieldsOf 37, by kernel_rfl, by kernel_rfl, by kernel_rfl⟩
instance : TZero Tryz.prog 37 (.agg #[.pointer none, .pointer none]) := ⟨by kernel_rfl⟩
instance : ESize Tryz.prog 37 2 16 := ⟨by kernel_rfl⟩
-- 38: kiosklaw3.World
instance : TAgg Tryz.prog 38 2 := ⟨by kernel_rfl, by kernel_rfl⟩
instance : FOff Tryz.prog 38 0 0 := ⟨0, by kernel_rfl⟩
instance : FOff Tryz.prog 38 1 1 := ⟨0, by kernel_rfl⟩
instance : TPlaces Tryz.prog 38 [(0, 1), (1, 1)] := ⟨Tryz.prog.fieldsOf 38, by kernel_rfl, by kernel_rfl, by kernel_rfl⟩
instance : TZero Tryz.prog 38 (.agg #[.pointer none, .pointer none]) := ⟨by kernel_rfl⟩
instance : ESize Tryz.prog 38 2 16 := ⟨by kernel_rfl⟩
-- 39: []kioskref2.File
instance : TSc Tryz.prog 39 := ⟨by kernel_rfl, by kernel_rfl⟩
instance : TSlice Tryz.prog 39 89 := ⟨by kernel_rfl⟩
instance : TZero Tryz.prog 39 (.slice none 0 0) := ⟨by kernel_rfl⟩
instance : ESize Tryz.prog 39 1 24 := ⟨by kernel_rfl⟩
-- 40: struct { L []kioskref2.File; Most int; Fused int; Gone bool }
instance : TAgg Tryz.prog 40 4 := ⟨by kernel_rfl, by kernel_rfl⟩
instance : FOff Tryz.prog 40 0 0 := ⟨0, by kernel_rfl⟩
instance : FOff Tryz.prog 40 1 1 := ⟨0, by kernel_rfl⟩
instance : FOff Tryz.prog 40 2 2 := ⟨0, by kernel_rfl⟩
instance : FOff Tryz.prog 40 3 3 := ⟨0, by kernel_rfl⟩
instance : TPlaces Tryz.prog 40 [(0, 1), (1, 1), (2, 1), (3, 1)] := ⟨Tryz.prog.fieldsOf 40, by kernel_rfl, by kernel_rfl, by kernel_rfl⟩
instance : TZero Tryz.prog 40 (.agg #[.slice none 0 0, .int .i64 0, .int .i64 0, .bool false]) := ⟨by kernel_rfl⟩
instance : ESize Tryz.prog 40 4 48 := ⟨by kernel_rfl⟩
-- 41: kioskref2.Disk
instance : TAgg Tryz.prog 41 4 := ⟨by kernel_rfl, by kernel_rfl⟩
instance : FOff Tryz.prog 41 0 0 := ⟨0, by kernel_rfl⟩
instance : FOff Tryz.prog 41 1 1 := ⟨0, by kernel_rfl⟩
instance : FOff Tryz.prog 41 2 2 := ⟨0, by kernel_rfl⟩
instance : FOff Tryz.prog 41 3 3 := ⟨0, by kernel_rfl⟩
instance : TPlaces Tryz.prog 41 [(0, 1), (1, 1), (2, 1), (3, 1)] := ⟨Tryz.prog.fieldsOf 41, by kernel_rfl, by kernel_rfl, by kernel_rfl⟩
instance : TZero Tryz.prog 41 (.agg #[.slice none 0 0, .int .i64 0, .int .i64 0, .bool false]) := ⟨by kernel_rfl⟩
instance : ESize Tryz.prog 41 4 48 := ⟨by kernel_rfl⟩
-- 42: *kioskref2.Disk
instance : TSc Tryz.prog 42 := ⟨by kernel_rfl, by kernel_rfl⟩
instance : TPtr Tryz.prog 42 41 := ⟨by kernel_rfl⟩
instance : TZero Tryz.prog 42 (.pointer none) := ⟨by kernel_rfl⟩
instance : ESize Tryz.prog 42 1 8 := ⟨by kernel_rfl⟩
-- 43: *kioskref3.Log
instance : TSc Tryz.prog 43 := ⟨by kernel_rfl, by kernel_rfl⟩
instance : TPtr Tryz.prog 43 54 := ⟨by kernel_rfl⟩
instance : TZero Tryz.prog 43 (.pointer none) := ⟨by kernel_rfl⟩
instance : ESize Tryz.prog 43 1 8 := ⟨by kernel_rfl⟩
-- 44: struct { D *kioskref2.Disk; W *kioskref3.Log }
instance : TAgg Tryz.prog 44 2 := ⟨by kernel_rfl, by kernel_rfl⟩
instance : FOff Tryz.prog 44 0 0 := ⟨0, by kernel_rfl⟩
instance : FOff Tryz.prog 44 1 1 := ⟨0, by kernel_rfl⟩
instance : TPlaces Tryz.prog 44 [(0, 1), (1, 1)] := ⟨Tryz.prog.fieldsOf 44, by kernel_rfl, by kernel_rfl, by kernel_rfl⟩
instance : TZero Tryz.prog 44 (.agg #[.pointer none, .pointer none]) := ⟨by kernel_rfl⟩
instance : ESize Tryz.prog 44 2 16 := ⟨by kernel_rfl⟩
-- 45: kiosklaw3.Model
instance : TAgg Tryz.prog 45 2 := ⟨by kernel_rfl, by kernel_rfl⟩
instance : FOff Tryz.prog 45 0 0 := ⟨0, by kernel_rfl⟩
instance : FOff Tryz.prog 45 1 1 := ⟨0, by kernel_rfl⟩
instance : TPlaces Tryz.prog 45 [(0, 1), (1, 1)] := ⟨Tryz.prog.fieldsOf 45, by kernel_rfl, by kernel_rfl, by kernel_rfl⟩
instance : TZero Tryz.prog 45 (.agg #[.pointer none, .pointer none]) := ⟨by kernel_rfl⟩
instance : ESize Tryz.prog 45 2 16 := ⟨by kernel_rfl⟩
-- 46: func() []int
instance : TSc Tryz.prog 46 := ⟨by kernel_rfl, by kernel_rfl⟩
instance : TZero Tryz.prog 46 (.nilFunc) := ⟨by kernel_rfl⟩
instance : ESize Tryz.prog 46 1 8 := ⟨by kernel_rfl⟩
-- 47: []string
instance : TSc Tryz.prog 47 := ⟨by kernel_rfl, by kernel_rfl⟩
instance : TSlice Tryz.prog 47 9 := ⟨by kernel_rfl⟩
instance : TZero Tryz.prog 47 (.slice none 0 0) := ⟨by kernel_rfl⟩
instance : ESize Tryz.prog 47 1 24 := ⟨by kernel_rfl⟩
-- 48: func() []string
instance : TSc Tryz.prog 48 := ⟨by kernel_rfl, by kernel_rfl⟩
instance : TZero Tryz.prog 48 (.nilFunc) := ⟨by kernel_rfl⟩
instance : ESize Tryz.prog 48 1 8 := ⟨by kernel_rfl⟩
-- 49: struct { Term int; Vote int }
instance : TAgg Tryz.prog 49 2 := ⟨by kernel_rfl, by kernel_rfl⟩
instance : FOff Tryz.prog 49 0 0 := ⟨0, by kernel_rfl⟩
instance : FOff Tryz.prog 49 1 1 := ⟨0, by kernel_rfl⟩
instance : TPlaces Tryz.prog 49 [(0, 1), (1, 1)] := ⟨Tryz.prog.fieldsOf 49, by kernel_rfl, by kernel_rfl, by kernel_rfl⟩
instance : TFlatK Tryz.prog 49 [.int .i64, .int .i64] := { u := by kernel_rfl, s := by kernel_rfl, g := by kernel_rfl, f := by kernel_rfl, k := by kernel_rfl }
instance : TZero Tryz.prog 49 (.agg #[.int .i64 0, .int .i64 0]) := ⟨by kernel_rfl⟩
instance : ESize Tryz.prog 49 2 16 := ⟨by kernel_rfl⟩
-- 50: api.Hard
instance : TAgg Tryz.prog 50 2 := ⟨by kernel_rfl, by kernel_rfl⟩
instance : FOff Tryz.prog 50 0 0 := ⟨0, by kernel_rfl⟩
instance : FOff Tryz.prog 50 1 1 := ⟨0, by kernel_rfl⟩
instance : TPlaces Tryz.prog 50 [(0, 1), (1, 1)] := ⟨Tryz.prog.fieldsOf 50, by kernel_rfl, by kernel_rfl, by kernel_rfl⟩
instance : TFlatK Tryz.prog 50 [.int .i64, .int .i64] := { u := by kernel_rfl, s := by kernel_rfl, g := by kernel_rfl, f := by kernel_rfl, k := by kernel_rfl }
instance : TZero Tryz.prog 50 (.agg #[.int .i64 0, .int .i64 0]) := ⟨by kernel_rfl⟩
instance : ESize Tryz.prog 50 2 16 := ⟨by kernel_rfl⟩
-- 51: func() api.Hard
instance : TSc Tryz.prog 51 := ⟨by kernel_rfl, by kernel_rfl⟩
instance : TZero Tryz.prog 51 (.nilFunc) := ⟨by kernel_rfl⟩
instance : ESize Tryz.prog 51 1 8 := ⟨by kernel_rfl⟩
-- 52: []api.Entry
instance : TSc Tryz.prog 52 := ⟨by kernel_rfl, by kernel_rfl⟩
instance : TSlice Tryz.prog 52 70 := ⟨by kernel_rfl⟩
instance : TZero Tryz.prog 52 (.slice none 0 0) := ⟨by kernel_rfl⟩
instance : ESize Tryz.prog 52 1 24 := ⟨by kernel_rfl⟩
-- 53: struct { D *kioskref2.Disk; Hard api.Hard; L []api.Entry }
instance : TAgg Tryz.prog 53 4 := ⟨by kernel_rfl, by kernel_rfl⟩
instance : FOff Tryz.prog 53 0 0 := ⟨0, by kernel_rfl⟩
instance : FOff Tryz.prog 53 1 1 := ⟨1, by kernel_rfl⟩
instance : FOff Tryz.prog 53 2 3 := ⟨0, by kernel_rfl⟩
instance : TPlaces Tryz.prog 53 [(0, 1), (1, 2), (3, 1)] := ⟨Tryz.prog.fieldsOf 53, by kernel_rfl, by kernel_rfl, by kernel_rfl⟩
instance : TZero Tryz.prog 53 (.agg #[.pointer none, .int .i64 0, .int .i64 0, .slice none 0 0]) := ⟨by kernel_rfl⟩
instance : ESize Tryz.prog 53 4 48 := ⟨by kernel_rfl⟩
-- 54: kioskref3.Log
instance : TAgg Tryz.prog 54 4 := ⟨by kernel_rfl, by kernel_rfl⟩
instance : FOff Tryz.prog 54 0 0 := ⟨0, by kernel_rfl⟩
instance : FOff Tryz.prog 54 1 1 := ⟨1, by kernel_rfl⟩
instance : FOff Tryz.prog 54 2 3 := ⟨0, by kernel_rfl⟩
instance : TPlaces Tryz.prog 54 [(0, 1), (1, 2), (3, 1)] := ⟨Tryz.prog.fieldsOf 54, by kernel_rfl, by kernel_rfl, by kernel_rfl⟩
instance : TZero Tryz.prog 54 (.agg #[.pointer none, .int .i64 0, .int .i64 0, .slice none 0 0]) := ⟨by kernel_rfl⟩
instance : ESize Tryz.prog 54 4 48 := ⟨by kernel_rfl⟩
-- 55: func([]api.Entry, []api.Entry) bool
instance : TSc Tryz.prog 55 := ⟨by kernel_rfl, by kernel_rfl⟩
instance : TZero Tryz.prog 55 (.nilFunc) := ⟨by kernel_rfl⟩
instance : ESize Tryz.prog 55 1 8 := ⟨by kernel_rfl⟩
-- 56: func() []api.Entry
instance : TSc Tryz.prog 56 := ⟨by kernel_rfl, by kernel_rfl⟩
instance : TZero Tryz.prog 56 (.nilFunc) := ⟨by kernel_rfl⟩
instance : ESize Tryz.prog 56 1 8 := ⟨by kernel_rfl⟩
-- 57: func(int) string
instance : TSc Tryz.prog 57 := ⟨by kernel_rfl, by kernel_rfl⟩
instance : TZero Tryz.prog 57 (.nilFunc) := ⟨by kernel_rfl⟩
instance : ESize Tryz.prog 57 1 8 := ⟨by kernel_rfl⟩
-- 58: func(*disk.Disk, *kioskref2.Disk) bool
instance : TSc Tryz.prog 58 := ⟨by kernel_rfl, by kernel_rfl⟩
instance : TZero Tryz.prog 58 (.nilFunc) := ⟨by kernel_rfl⟩
instance : ESize Tryz.prog 58 1 8 := ⟨by kernel_rfl⟩
-- 59: func(int, []kiosklaw3.Act) bool
instance : TSc Tryz.prog 59 := ⟨by kernel_rfl, by kernel_rfl⟩
instance : TZero Tryz.prog 59 (.nilFunc) := ⟨by kernel_rfl⟩
instance : ESize Tryz.prog 59 1 8 := ⟨by kernel_rfl⟩
-- 60: func(int)
instance : TSc Tryz.prog 60 := ⟨by kernel_rfl, by kernel_rfl⟩
instance : TZero Tryz.prog 60 (.nilFunc) := ⟨by kernel_rfl⟩
instance : ESize Tryz.prog 60 1 8 := ⟨by kernel_rfl⟩
-- 61: func(kiosklaw3.Act) []api.Entry
instance : TSc Tryz.prog 61 := ⟨by kernel_rfl, by kernel_rfl⟩
instance : TZero Tryz.prog 61 (.nilFunc) := ⟨by kernel_rfl⟩
instance : ESize Tryz.prog 61 1 8 := ⟨by kernel_rfl⟩
-- 62: func(kiosklaw3.Act) api.Hard
instance : TSc Tryz.prog 62 := ⟨by kernel_rfl, by kernel_rfl⟩
instance : TZero Tryz.prog 62 (.nilFunc) := ⟨by kernel_rfl⟩
instance : ESize Tryz.prog 62 1 8 := ⟨by kernel_rfl⟩
-- 63: func([]int, []int)
instance : TSc Tryz.prog 63 := ⟨by kernel_rfl, by kernel_rfl⟩
instance : TZero Tryz.prog 63 (.nilFunc) := ⟨by kernel_rfl⟩
instance : ESize Tryz.prog 63 1 8 := ⟨by kernel_rfl⟩
-- 65: func(*disk.Disk) (*wal.Log, api.Errno)
instance : TSc Tryz.prog 65 := ⟨by kernel_rfl, by kernel_rfl⟩
instance : TZero Tryz.prog 65 (.nilFunc) := ⟨by kernel_rfl⟩
instance : ESize Tryz.prog 65 1 8 := ⟨by kernel_rfl⟩
-- 66: func([]api.Entry, []api.Entry, []api.Entry) bool
instance : TSc Tryz.prog 66 := ⟨by kernel_rfl, by kernel_rfl⟩
instance : TZero Tryz.prog 66 (.nilFunc) := ⟨by kernel_rfl⟩
instance : ESize Tryz.prog 66 1 8 := ⟨by kernel_rfl⟩
-- 67: func([]kiosklaw3.Act, int, []int, []int, int) bool
instance : TSc Tryz.prog 67 := ⟨by kernel_rfl, by kernel_rfl⟩
instance : TZero Tryz.prog 67 (.nilFunc) := ⟨by kernel_rfl⟩
instance : ESize Tryz.prog 67 1 8 := ⟨by kernel_rfl⟩
-- 68: func(int) api.Errno
instance : TSc Tryz.prog 68 := ⟨by kernel_rfl, by kernel_rfl⟩
instance : TZero Tryz.prog 68 (.nilFunc) := ⟨by kernel_rfl⟩
instance : ESize Tryz.prog 68 1 8 := ⟨by kernel_rfl⟩
-- 69: struct { Index int; Term int; Kind int; Data string }
instance : TAgg Tryz.prog 69 4 := ⟨by kernel_rfl, by kernel_rfl⟩
instance : FOff Tryz.prog 69 0 0 := ⟨0, by kernel_rfl⟩
instance : FOff Tryz.prog 69 1 1 := ⟨0, by kernel_rfl⟩
instance : FOff Tryz.prog 69 2 2 := ⟨0, by kernel_rfl⟩
instance : FOff Tryz.prog 69 3 3 := ⟨0, by kernel_rfl⟩
instance : TPlaces Tryz.prog 69 [(0, 1), (1, 1), (2, 1), (3, 1)] := ⟨Tryz.prog.fieldsOf 69, by kernel_rfl, by kernel_rfl, by kernel_rfl⟩
instance : TFlatK Tryz.prog 69 [.int .i64, .int .i64, .int .i64, .str] := { u := by kernel_rfl, s := by kernel_rfl, g := by kernel_rfl, f := by kernel_rfl, k := by kernel_rfl }
instance : TZero Tryz.prog 69 (.agg #[.int .i64 0, .int .i64 0, .int .i64 0, .string ⟨#[]⟩]) := ⟨by kernel_rfl⟩
instance : ESize Tryz.prog 69 4 40 := ⟨by kernel_rfl⟩
-- 70: api.Entry
instance : TAgg Tryz.prog 70 4 := ⟨by kernel_rfl, by kernel_rfl⟩
instance : FOff Tryz.prog 70 0 0 := ⟨0, by kernel_rfl⟩
instance : FOff Tryz.prog 70 1 1 := ⟨0, by kernel_rfl⟩
instance : FOff Tryz.prog 70 2 2 := ⟨0, by kernel_rfl⟩
instance : FOff Tryz.prog 70 3 3 := ⟨0, by kernel_rfl⟩
instance : TPlaces Tryz.prog 70 [(0, 1), (1, 1), (2, 1), (3, 1)] := ⟨Tryz.prog.fieldsOf 70, by kernel_rfl, by kernel_rfl, by kernel_rfl⟩
instance : TFlatK Tryz.prog 70 [.int .i64, .int .i64, .int .i64, .str] := { u := by kernel_rfl, s := by kernel_rfl, g := by kernel_rfl, f := by kernel_rfl, k := by kernel_rfl }
instance : TZero Tryz.prog 70 (.agg #[.int .i64 0, .int .i64 0, .int .i64 0, .string ⟨#[]⟩]) := ⟨by kernel_rfl⟩
instance : ESize Tryz.prog 70 4 40 := ⟨by kernel_rfl⟩
-- 71: func([]api.Entry, api.Entry) bool
instance : TSc Tryz.prog 71 := ⟨by kernel_rfl, by kernel_rfl⟩
instance : TZero Tryz.prog 71 (.nilFunc) := ⟨by kernel_rfl⟩
instance : ESize Tryz.prog 71 1 8 := ⟨by kernel_rfl⟩
-- 72: func([]kiosklaw3.Act, int) bool
instance : TSc Tryz.prog 72 := ⟨by kernel_rfl, by kernel_rfl⟩
instance : TZero Tryz.prog 72 (.nilFunc) := ⟨by kernel_rfl⟩
instance : ESize Tryz.prog 72 1 8 := ⟨by kernel_rfl⟩
-- 73: func() int
instance : TSc Tryz.prog 73 := ⟨by kernel_rfl, by kernel_rfl⟩
instance : TZero Tryz.prog 73 (.nilFunc) := ⟨by kernel_rfl⟩
instance : ESize Tryz.prog 73 1 8 := ⟨by kernel_rfl⟩
-- 74: func(api.Hard, []api.Entry) api.Errno
instance : TSc Tryz.prog 74 := ⟨by kernel_rfl, by kernel_rfl⟩
instance : TZero Tryz.prog 74 (.nilFunc) := ⟨by kernel_rfl⟩
instance : ESize Tryz.prog 74 1 8 := ⟨by kernel_rfl⟩
-- 75: func(int, int, string) api.Entry
instance : TSc Tryz.prog 75 := ⟨by kernel_rfl, by kernel_rfl⟩
instance : TZero Tryz.prog 75 (.nilFunc) := ⟨by kernel_rfl⟩
instance : ESize Tryz.prog 75 1 8 := ⟨by kernel_rfl⟩
-- 76: func([]kiosklaw3.Act, int, string) bool
instance : TSc Tryz.prog 76 := ⟨by kernel_rfl, by kernel_rfl⟩
instance : TZero Tryz.prog 76 (.nilFunc) := ⟨by kernel_rfl⟩
instance : ESize Tryz.prog 76 1 8 := ⟨by kernel_rfl⟩
-- 78: func(int) (*disk.Disk, api.Errno)
instance : TSc Tryz.prog 78 := ⟨by kernel_rfl, by kernel_rfl⟩
instance : TZero Tryz.prog 78 (.nilFunc) := ⟨by kernel_rfl⟩
instance : ESize Tryz.prog 78 1 8 := ⟨by kernel_rfl⟩
-- 79: func() api.Errno
instance : TSc Tryz.prog 79 := ⟨by kernel_rfl, by kernel_rfl⟩
instance : TZero Tryz.prog 79 (.nilFunc) := ⟨by kernel_rfl⟩
instance : ESize Tryz.prog 79 1 8 := ⟨by kernel_rfl⟩
-- 81: func(int) (*kioskref2.Disk, bool)
instance : TSc Tryz.prog 81 := ⟨by kernel_rfl, by kernel_rfl⟩
instance : TZero Tryz.prog 81 (.nilFunc) := ⟨by kernel_rfl⟩
instance : ESize Tryz.prog 81 1 8 := ⟨by kernel_rfl⟩
-- 83: func(*kioskref2.Disk) (*kioskref3.Log, api.Errno)
instance : TSc Tryz.prog 83 := ⟨by kernel_rfl, by kernel_rfl⟩
instance : TZero Tryz.prog 83 (.nilFunc) := ⟨by kernel_rfl⟩
instance : ESize Tryz.prog 83 1 8 := ⟨by kernel_rfl⟩
-- 84: map[string]disk.file
instance : TSc Tryz.prog 84 := ⟨by kernel_rfl, by kernel_rfl⟩
instance : TMap Tryz.prog 84 9 100 := ⟨by kernel_rfl⟩
instance : TZero Tryz.prog 84 (.map none) := ⟨by kernel_rfl⟩
instance : ESize Tryz.prog 84 1 8 := ⟨by kernel_rfl⟩
-- 85: struct { files map[string]disk.file; most int; fuse int; dead bool }
instance : TAgg Tryz.prog 85 4 := ⟨by kernel_rfl, by kernel_rfl⟩
instance : FOff Tryz.prog 85 0 0 := ⟨0, by kernel_rfl⟩
instance : FOff Tryz.prog 85 1 1 := ⟨0, by kernel_rfl⟩
instance : FOff Tryz.prog 85 2 2 := ⟨0, by kernel_rfl⟩
instance : FOff Tryz.prog 85 3 3 := ⟨0, by kernel_rfl⟩
instance : TPlaces Tryz.prog 85 [(0, 1), (1, 1), (2, 1), (3, 1)] := ⟨Tryz.prog.fieldsOf 85, by kernel_rfl, by kernel_rfl, by kernel_rfl⟩
instance : TZero Tryz.prog 85 (.agg #[.map none, .int .i64 0, .int .i64 0, .bool false]) := ⟨by kernel_rfl⟩
instance : ESize Tryz.prog 85 4 32 := ⟨by kernel_rfl⟩
-- 86: disk.Disk
instance : TAgg Tryz.prog 86 4 := ⟨by kernel_rfl, by kernel_rfl⟩
instance : FOff Tryz.prog 86 0 0 := ⟨0, by kernel_rfl⟩
instance : FOff Tryz.prog 86 1 1 := ⟨0, by kernel_rfl⟩
instance : FOff Tryz.prog 86 2 2 := ⟨0, by kernel_rfl⟩
instance : FOff Tryz.prog 86 3 3 := ⟨0, by kernel_rfl⟩
instance : TPlaces Tryz.prog 86 [(0, 1), (1, 1), (2, 1), (3, 1)] := ⟨Tryz.prog.fieldsOf 86, by kernel_rfl, by kernel_rfl, by kernel_rfl⟩
instance : TZero Tryz.prog 86 (.agg #[.map none, .int .i64 0, .int .i64 0, .bool false]) := ⟨by kernel_rfl⟩
instance : ESize Tryz.prog 86 4 32 := ⟨by kernel_rfl⟩
-- 87: func(string) int
instance : TSc Tryz.prog 87 := ⟨by kernel_rfl, by kernel_rfl⟩
instance : TZero Tryz.prog 87 (.nilFunc) := ⟨by kernel_rfl⟩
instance : ESize Tryz.prog 87 1 8 := ⟨by kernel_rfl⟩
-- 88: struct { Name string; Bytes string; Synced int }
instance : TAgg Tryz.prog 88 3 := ⟨by kernel_rfl, by kernel_rfl⟩
instance : FOff Tryz.prog 88 0 0 := ⟨0, by kernel_rfl⟩
instance : FOff Tryz.prog 88 1 1 := ⟨0, by kernel_rfl⟩
instance : FOff Tryz.prog 88 2 2 := ⟨0, by kernel_rfl⟩
instance : TPlaces Tryz.prog 88 [(0, 1), (1, 1), (2, 1)] := ⟨Tryz.prog.fieldsOf 88, by kernel_rfl, by kernel_rfl, by kernel_rfl⟩
instance : TFlatK Tryz.prog 88 [.str, .str, .int .i64] := { u := by kernel_rfl, s := by kernel_rfl, g := by kernel_rfl, f := by kernel_rfl, k := by kernel_rfl }
instance : TZero Tryz.prog 88 (.agg #[.string ⟨#[]⟩, .string ⟨#[]⟩, .int .i64 0]) := ⟨by kernel_rfl⟩
instance : ESize Tryz.prog 88 3 40 := ⟨by kernel_rfl⟩
-- 89: kioskref2.File
instance : TAgg Tryz.prog 89 3 := ⟨by kernel_rfl, by kernel_rfl⟩
instance : FOff Tryz.prog 89 0 0 := ⟨0, by kernel_rfl⟩
instance : FOff Tryz.prog 89 1 1 := ⟨0, by kernel_rfl⟩
instance : FOff Tryz.prog 89 2 2 := ⟨0, by kernel_rfl⟩
instance : TPlaces Tryz.prog 89 [(0, 1), (1, 1), (2, 1)] := ⟨Tryz.prog.fieldsOf 89, by kernel_rfl, by kernel_rfl, by kernel_rfl⟩
instance : TFlatK Tryz.prog 89 [.str, .str, .int .i64] := { u := by kernel_rfl, s := by kernel_rfl, g := by kernel_rfl, f := by kernel_rfl, k := by kernel_rfl }
instance : TZero Tryz.prog 89 (.agg #[.string ⟨#[]⟩, .string ⟨#[]⟩, .int .i64 0]) := ⟨by kernel_rfl⟩
instance : ESize Tryz.prog 89 3 40 := ⟨by kernel_rfl⟩
-- 90: []wal.segment
instance : TSc Tryz.prog 90 := ⟨by kernel_rfl, by kernel_rfl⟩
instance : TSlice Tryz.prog 90 94 := ⟨by kernel_rfl⟩
instance : TZero Tryz.prog 90 (.slice none 0 0) := ⟨by kernel_rfl⟩
instance : ESize Tryz.prog 90 1 24 := ⟨by kernel_rfl⟩
-- 91: struct { d *disk.Disk; hard api.Hard; entries []api.Entry; segments []wal.segment }
instance : TAgg Tryz.prog 91 5 := ⟨by kernel_rfl, by kernel_rfl⟩
instance : FOff Tryz.prog 91 0 0 := ⟨0, by kernel_rfl⟩
instance : FOff Tryz.prog 91 1 1 := ⟨1, by kernel_rfl⟩
instance : FOff Tryz.prog 91 2 3 := ⟨0, by kernel_rfl⟩
instance : FOff Tryz.prog 91 3 4 := ⟨0, by kernel_rfl⟩
instance : TPlaces Tryz.prog 91 [(0, 1), (1, 2), (3, 1), (4, 1)] := ⟨Tryz.prog.fieldsOf 91, by kernel_rfl, by kernel_rfl, by kernel_rfl⟩
instance : TZero Tryz.prog 91 (.agg #[.pointer none, .int .i64 0, .int .i64 0, .slice none 0 0, .slice none 0 0]) := ⟨by kernel_rfl⟩
instance : ESize Tryz.prog 91 5 72 := ⟨by kernel_rfl⟩
-- 92: wal.Log
instance : TAgg Tryz.prog 92 5 := ⟨by kernel_rfl, by kernel_rfl⟩
instance : FOff Tryz.prog 92 0 0 := ⟨0, by kernel_rfl⟩
instance : FOff Tryz.prog 92 1 1 := ⟨1, by kernel_rfl⟩
instance : FOff Tryz.prog 92 2 3 := ⟨0, by kernel_rfl⟩
instance : FOff Tryz.prog 92 3 4 := ⟨0, by kernel_rfl⟩
instance : TPlaces Tryz.prog 92 [(0, 1), (1, 2), (3, 1), (4, 1)] := ⟨Tryz.prog.fieldsOf 92, by kernel_rfl, by kernel_rfl, by kernel_rfl⟩
instance : TZero Tryz.prog 92 (.agg #[.pointer none, .int .i64 0, .int .i64 0, .slice none 0 0, .slice none 0 0]) := ⟨by kernel_rfl⟩
instance : ESize Tryz.prog 92 5 72 := ⟨by kernel_rfl⟩
-- 93: struct { number int; size int; top int }
instance : TAgg Tryz.prog 93 3 := ⟨by kernel_rfl, by kernel_rfl⟩
instance : FOff Tryz.prog 93 0 0 := ⟨0, by kernel_rfl⟩
instance : FOff Tryz.prog 93 1 1 := ⟨0, by kernel_rfl⟩
instance : FOff Tryz.prog 93 2 2 := ⟨0, by kernel_rfl⟩
instance : TPlaces Tryz.prog 93 [(0, 1), (1, 1), (2, 1)] := ⟨Tryz.prog.fieldsOf 93, by kernel_rfl, by kernel_rfl, by kernel_rfl⟩
instance : TFlatK Tryz.prog 93 [.int .i64, .int .i64, .int .i64] := { u := by kernel_rfl, s := by kernel_rfl, g := by kernel_rfl, f := by kernel_rfl, k := by kernel_rfl }
instance : TZero Tryz.prog 93 (.agg #[.int .i64 0, .int .i64 0, .int .i64 0]) := ⟨by kernel_rfl⟩
instance : ESize Tryz.prog 93 3 24 := ⟨by kernel_rfl⟩
-- 94: wal.segment
instance : TAgg Tryz.prog 94 3 := ⟨by kernel_rfl, by kernel_rfl⟩
instance : FOff Tryz.prog 94 0 0 := ⟨0, by kernel_rfl⟩
instance : FOff Tryz.prog 94 1 1 := ⟨0, by kernel_rfl⟩
instance : FOff Tryz.prog 94 2 2 := ⟨0, by kernel_rfl⟩
instance : TPlaces Tryz.prog 94 [(0, 1), (1, 1), (2, 1)] := ⟨Tryz.prog.fieldsOf 94, by kernel_rfl, by kernel_rfl, by kernel_rfl⟩
instance : TFlatK Tryz.prog 94 [.int .i64, .int .i64, .int .i64] := { u := by kernel_rfl, s := by kernel_rfl, g := by kernel_rfl, f := by kernel_rfl, k := by kernel_rfl }
instance : TZero Tryz.prog 94 (.agg #[.int .i64 0, .int .i64 0, .int .i64 0]) := ⟨by kernel_rfl⟩
instance : ESize Tryz.prog 94 3 24 := ⟨by kernel_rfl⟩
-- 95: func() string
instance : TSc Tryz.prog 95 := ⟨by kernel_rfl, by kernel_rfl⟩
instance : TZero Tryz.prog 95 (.nilFunc) := ⟨by kernel_rfl⟩
instance : ESize Tryz.prog 95 1 8 := ⟨by kernel_rfl⟩
-- 96: func([]api.Entry) []api.Entry
instance : TSc Tryz.prog 96 := ⟨by kernel_rfl, by kernel_rfl⟩
instance : TZero Tryz.prog 96 (.nilFunc) := ⟨by kernel_rfl⟩
instance : ESize Tryz.prog 96 1 8 := ⟨by kernel_rfl⟩
-- 98: func(string) (string, api.Errno)
instance : TSc Tryz.prog 98 := ⟨by kernel_rfl, by kernel_rfl⟩
instance : TZero Tryz.prog 98 (.nilFunc) := ⟨by kernel_rfl⟩
instance : ESize Tryz.prog 98 1 8 := ⟨by kernel_rfl⟩
-- 99: struct { bytes string; synced int }
instance : TAgg Tryz.prog 99 2 := ⟨by kernel_rfl, by kernel_rfl⟩
instance : FOff Tryz.prog 99 0 0 := ⟨0, by kernel_rfl⟩
instance : FOff Tryz.prog 99 1 1 := ⟨0, by kernel_rfl⟩
instance : TPlaces Tryz.prog 99 [(0, 1), (1, 1)] := ⟨Tryz.prog.fieldsOf 99, by kernel_rfl, by kernel_rfl, by kernel_rfl⟩
instance : TFlatK Tryz.prog 99 [.str, .int .i64] := { u := by kernel_rfl, s := by kernel_rfl, g := by kernel_rfl, f := by kernel_rfl, k := by kernel_rfl }
instance : TZero Tryz.prog 99 (.agg #[.string ⟨#[]⟩, .int .i64 0]) := ⟨by kernel_rfl⟩
instance : ESize Tryz.prog 99 2 24 := ⟨by kernel_rfl⟩
-- 100: disk.file
instance : TAgg Tryz.prog 100 2 := ⟨by kernel_rfl, by kernel_rfl⟩
instance : FOff Tryz.prog 100 0 0 := ⟨0, by kernel_rfl⟩
instance : FOff Tryz.prog 100 1 1 := ⟨0, by kernel_rfl⟩
instance : TPlaces Tryz.prog 100 [(0, 1), (1, 1)] := ⟨Tryz.prog.fieldsOf 100, by kernel_rfl, by kernel_rfl, by kernel_rfl⟩
instance : TFlatK Tryz.prog 100 [.str, .int .i64] := { u := by kernel_rfl, s := by kernel_rfl, g := by kernel_rfl, f := by kernel_rfl, k := by kernel_rfl }
instance : TZero Tryz.prog 100 (.agg #[.string ⟨#[]⟩, .int .i64 0]) := ⟨by kernel_rfl⟩
instance : ESize Tryz.prog 100 2 24 := ⟨by kernel_rfl⟩
-- 101: func([]int, int) int
instance : TSc Tryz.prog 101 := ⟨by kernel_rfl, by kernel_rfl⟩
instance : TZero Tryz.prog 101 (.nilFunc) := ⟨by kernel_rfl⟩
instance : ESize Tryz.prog 101 1 8 := ⟨by kernel_rfl⟩
-- 102: []uint8
instance : TSc Tryz.prog 102 := ⟨by kernel_rfl, by kernel_rfl⟩
instance : TSlice Tryz.prog 102 5 := ⟨by kernel_rfl⟩
instance : TZero Tryz.prog 102 (.slice none 0 0) := ⟨by kernel_rfl⟩
instance : ESize Tryz.prog 102 1 24 := ⟨by kernel_rfl⟩
-- 103: func([]int)
instance : TSc Tryz.prog 103 := ⟨by kernel_rfl, by kernel_rfl⟩
instance : TZero Tryz.prog 103 (.nilFunc) := ⟨by kernel_rfl⟩
instance : ESize Tryz.prog 103 1 8 := ⟨by kernel_rfl⟩
-- 104: func(api.Hard, bool, ...string) api.Errno
instance : TSc Tryz.prog 104 := ⟨by kernel_rfl, by kernel_rfl⟩
instance : TZero Tryz.prog 104 (.nilFunc) := ⟨by kernel_rfl⟩
instance : ESize Tryz.prog 104 1 8 := ⟨by kernel_rfl⟩
-- 105: func(bool) api.Errno
instance : TSc Tryz.prog 105 := ⟨by kernel_rfl, by kernel_rfl⟩
instance : TZero Tryz.prog 105 (.nilFunc) := ⟨by kernel_rfl⟩
instance : ESize Tryz.prog 105 1 8 := ⟨by kernel_rfl⟩
-- 106: func([]api.Entry, api.Entry) []api.Entry
instance : TSc Tryz.prog 106 := ⟨by kernel_rfl, by kernel_rfl⟩
instance : TZero Tryz.prog 106 (.nilFunc) := ⟨by kernel_rfl⟩
instance : ESize Tryz.prog 106 1 8 := ⟨by kernel_rfl⟩
-- 107: func(string) api.Errno
instance : TSc Tryz.prog 107 := ⟨by kernel_rfl, by kernel_rfl⟩
instance : TZero Tryz.prog 107 (.nilFunc) := ⟨by kernel_rfl⟩
instance : ESize Tryz.prog 107 1 8 := ⟨by kernel_rfl⟩
-- 108: func([]wal.segment) []wal.segment
instance : TSc Tryz.prog 108 := ⟨by kernel_rfl, by kernel_rfl⟩
instance : TZero Tryz.prog 108 (.nilFunc) := ⟨by kernel_rfl⟩
instance : ESize Tryz.prog 108 1 8 := ⟨by kernel_rfl⟩
-- 109: func([]api.Entry, func(api.Entry) bool) bool
instance : TSc Tryz.prog 109 := ⟨by kernel_rfl, by kernel_rfl⟩
instance : TZero Tryz.prog 109 (.nilFunc) := ⟨by kernel_rfl⟩
instance : ESize Tryz.prog 109 1 8 := ⟨by kernel_rfl⟩
-- 110: func(api.Entry) bool
instance : TSc Tryz.prog 110 := ⟨by kernel_rfl, by kernel_rfl⟩
instance : TZero Tryz.prog 110 (.nilFunc) := ⟨by kernel_rfl⟩
instance : ESize Tryz.prog 110 1 8 := ⟨by kernel_rfl⟩
-- 111: func(api.Entry) string
instance : TSc Tryz.prog 111 := ⟨by kernel_rfl, by kernel_rfl⟩
instance : TZero Tryz.prog 111 (.nilFunc) := ⟨by kernel_rfl⟩
instance : ESize Tryz.prog 111 1 8 := ⟨by kernel_rfl⟩
-- 112: func(api.Entry)
instance : TSc Tryz.prog 112 := ⟨by kernel_rfl, by kernel_rfl⟩
instance : TZero Tryz.prog 112 (.nilFunc) := ⟨by kernel_rfl⟩
instance : ESize Tryz.prog 112 1 8 := ⟨by kernel_rfl⟩
-- 113: func(...int) string
instance : TSc Tryz.prog 113 := ⟨by kernel_rfl, by kernel_rfl⟩
instance : TZero Tryz.prog 113 (.nilFunc) := ⟨by kernel_rfl⟩
instance : ESize Tryz.prog 113 1 8 := ⟨by kernel_rfl⟩
-- 114: func(string, string) api.Errno
instance : TSc Tryz.prog 114 := ⟨by kernel_rfl, by kernel_rfl⟩
instance : TZero Tryz.prog 114 (.nilFunc) := ⟨by kernel_rfl⟩
instance : ESize Tryz.prog 114 1 8 := ⟨by kernel_rfl⟩
-- 115: func(kioskref3.Record) string
instance : TSc Tryz.prog 115 := ⟨by kernel_rfl, by kernel_rfl⟩
instance : TZero Tryz.prog 115 (.nilFunc) := ⟨by kernel_rfl⟩
instance : ESize Tryz.prog 115 1 8 := ⟨by kernel_rfl⟩
-- 116: struct { Kind int; Hard api.Hard; Entry api.Entry }
instance : TAgg Tryz.prog 116 7 := ⟨by kernel_rfl, by kernel_rfl⟩
instance : FOff Tryz.prog 116 0 0 := ⟨0, by kernel_rfl⟩
instance : FOff Tryz.prog 116 1 1 := ⟨1, by kernel_rfl⟩
instance : FOff Tryz.prog 116 2 3 := ⟨3, by kernel_rfl⟩
instance : TPlaces Tryz.prog 116 [(0, 1), (1, 2), (3, 4)] := ⟨Tryz.prog.fieldsOf 116, by kernel_rfl, by kernel_rfl, by kernel_rfl⟩
instance : TZero Tryz.prog 116 (.agg #[.int .i64 0, .int .i64 0, .int .i64 0, .int .i64 0, .int .i64 0, .int .i64 0, .string ⟨#[]⟩]) := ⟨by kernel_rfl⟩
instance : ESize Tryz.prog 116 7 64 := ⟨by kernel_rfl⟩
-- 117: kioskref3.Record
instance : TAgg Tryz.prog 117 7 := ⟨by kernel_rfl, by kernel_rfl⟩
instance : FOff Tryz.prog 117 0 0 := ⟨0, by kernel_rfl⟩
instance : FOff Tryz.prog 117 1 1 := ⟨1, by kernel_rfl⟩
instance : FOff Tryz.prog 117 2 3 := ⟨3, by kernel_rfl⟩
instance : TPlaces Tryz.prog 117 [(0, 1), (1, 2), (3, 4)] := ⟨Tryz.prog.fieldsOf 117, by kernel_rfl, by kernel_rfl, by kernel_rfl⟩
instance : TZero Tryz.prog 117 (.agg #[.int .i64 0, .int .i64 0, .int .i64 0, .int .i64 0, .int .i64 0, .int .i64 0, .string ⟨#[]⟩]) := ⟨by kernel_rfl⟩
instance : ESize Tryz.prog 117 7 64 := ⟨by kernel_rfl⟩
-- 118: []kioskref3.Record
instance : TSc Tryz.prog 118 := ⟨by kernel_rfl, by kernel_rfl⟩
instance : TSlice Tryz.prog 118 117 := ⟨by kernel_rfl⟩
instance : TZero Tryz.prog 118 (.slice none 0 0) := ⟨by kernel_rfl⟩
instance : ESize Tryz.prog 118 1 24 := ⟨by kernel_rfl⟩
-- 120: func(string) ([]kioskref3.Record, int, api.Errno)
instance : TSc Tryz.prog 120 := ⟨by kernel_rfl, by kernel_rfl⟩
instance : TZero Tryz.prog 120 (.nilFunc) := ⟨by kernel_rfl⟩
instance : ESize Tryz.prog 120 1 8 := ⟨by kernel_rfl⟩
-- 121: func(kioskref3.Record)
instance : TSc Tryz.prog 121 := ⟨by kernel_rfl, by kernel_rfl⟩
instance : TZero Tryz.prog 121 (.nilFunc) := ⟨by kernel_rfl⟩
instance : ESize Tryz.prog 121 1 8 := ⟨by kernel_rfl⟩
-- 122: func(string, int) api.Errno
instance : TSc Tryz.prog 122 := ⟨by kernel_rfl, by kernel_rfl⟩
instance : TZero Tryz.prog 122 (.nilFunc) := ⟨by kernel_rfl⟩
instance : ESize Tryz.prog 122 1 8 := ⟨by kernel_rfl⟩
-- 123: func(iter.Seq[string]) []string
instance : TSc Tryz.prog 123 := ⟨by kernel_rfl, by kernel_rfl⟩
instance : TZero Tryz.prog 123 (.nilFunc) := ⟨by kernel_rfl⟩
instance : ESize Tryz.prog 123 1 8 := ⟨by kernel_rfl⟩
-- 124: func(func(string) bool)
instance : TSc Tryz.prog 124 := ⟨by kernel_rfl, by kernel_rfl⟩
instance : TZero Tryz.prog 124 (.nilFunc) := ⟨by kernel_rfl⟩
instance : ESize Tryz.prog 124 1 8 := ⟨by kernel_rfl⟩
-- 125: iter.Seq[string]
instance : TSc Tryz.prog 125 := ⟨by kernel_rfl, by kernel_rfl⟩
instance : TZero Tryz.prog 125 (.nilFunc) := ⟨by kernel_rfl⟩
instance : ESize Tryz.prog 125 1 8 := ⟨by kernel_rfl⟩
-- 126: func(map[string]disk.file) iter.Seq[string]
instance : TSc Tryz.prog 126 := ⟨by kernel_rfl, by kernel_rfl⟩
instance : TZero Tryz.prog 126 (.nilFunc) := ⟨by kernel_rfl⟩
instance : ESize Tryz.prog 126 1 8 := ⟨by kernel_rfl⟩
-- 128: func(string) (disk.file, api.Errno)
instance : TSc Tryz.prog 128 := ⟨by kernel_rfl, by kernel_rfl⟩
instance : TZero Tryz.prog 128 (.nilFunc) := ⟨by kernel_rfl⟩
instance : ESize Tryz.prog 128 1 8 := ⟨by kernel_rfl⟩
-- 130: func(string, string) (string, bool)
instance : TSc Tryz.prog 130 := ⟨by kernel_rfl, by kernel_rfl⟩
instance : TZero Tryz.prog 130 (.nilFunc) := ⟨by kernel_rfl⟩
instance : ESize Tryz.prog 130 1 8 := ⟨by kernel_rfl⟩
-- 131: func(string, string) string
instance : TSc Tryz.prog 131 := ⟨by kernel_rfl, by kernel_rfl⟩
instance : TZero Tryz.prog 131 (.nilFunc) := ⟨by kernel_rfl⟩
instance : ESize Tryz.prog 131 1 8 := ⟨by kernel_rfl⟩
-- 132: interface { Error() string }
instance : TSc Tryz.prog 132 := ⟨by kernel_rfl, by kernel_rfl⟩
instance : TZero Tryz.prog 132 (.nilIface) := ⟨by kernel_rfl⟩
instance : ESize Tryz.prog 132 1 16 := ⟨by kernel_rfl⟩
-- 133: error
instance : TSc Tryz.prog 133 := ⟨by kernel_rfl, by kernel_rfl⟩
instance : TZero Tryz.prog 133 (.nilIface) := ⟨by kernel_rfl⟩
instance : ESize Tryz.prog 133 1 16 := ⟨by kernel_rfl⟩
-- 135: func(string) (int, error)
instance : TSc Tryz.prog 135 := ⟨by kernel_rfl, by kernel_rfl⟩
instance : TZero Tryz.prog 135 (.nilFunc) := ⟨by kernel_rfl⟩
instance : ESize Tryz.prog 135 1 8 := ⟨by kernel_rfl⟩
-- 136: func([]int, int, int, int)
instance : TSc Tryz.prog 136 := ⟨by kernel_rfl, by kernel_rfl⟩
instance : TZero Tryz.prog 136 (.nilFunc) := ⟨by kernel_rfl⟩
instance : ESize Tryz.prog 136 1 8 := ⟨by kernel_rfl⟩
-- 137: func(uint) int
instance : TSc Tryz.prog 137 := ⟨by kernel_rfl, by kernel_rfl⟩
instance : TZero Tryz.prog 137 (.nilFunc) := ⟨by kernel_rfl⟩
instance : ESize Tryz.prog 137 1 8 := ⟨by kernel_rfl⟩
-- 138: uint
instance : TSc Tryz.prog 138 := ⟨by kernel_rfl, by kernel_rfl⟩
instance : TInt Tryz.prog 138 .u64 := ⟨by kernel_rfl⟩
instance : TZero Tryz.prog 138 (.int .u64 0) := ⟨by kernel_rfl⟩
instance : ESize Tryz.prog 138 1 8 := ⟨by kernel_rfl⟩
-- 139: *wal.segment
instance : TSc Tryz.prog 139 := ⟨by kernel_rfl, by kernel_rfl⟩
instance : TPtr Tryz.prog 139 94 := ⟨by kernel_rfl⟩
instance : TZero Tryz.prog 139 (.pointer none) := ⟨by kernel_rfl⟩
instance : ESize Tryz.prog 139 1 8 := ⟨by kernel_rfl⟩
-- 140: func(api.Hard) string
instance : TSc Tryz.prog 140 := ⟨by kernel_rfl, by kernel_rfl⟩
instance : TZero Tryz.prog 140 (.nilFunc) := ⟨by kernel_rfl⟩
instance : ESize Tryz.prog 140 1 8 := ⟨by kernel_rfl⟩
-- 141: *strings.Builder
instance : TSc Tryz.prog 141 := ⟨by kernel_rfl, by kernel_rfl⟩
instance : TPtr Tryz.prog 141 143 := ⟨by kernel_rfl⟩
instance : TZero Tryz.prog 141 (.pointer none) := ⟨by kernel_rfl⟩
instance : ESize Tryz.prog 141 1 8 := ⟨by kernel_rfl⟩
-- 142: struct { addr *strings.Builder; buf []uint8 }
instance : TAgg Tryz.prog 142 2 := ⟨by kernel_rfl, by kernel_rfl⟩
instance : FOff Tryz.prog 142 0 0 := ⟨0, by kernel_rfl⟩
instance : FOff Tryz.prog 142 1 1 := ⟨0, by kernel_rfl⟩
instance : TPlaces Tryz.prog 142 [(0, 1), (1, 1)] := ⟨Tryz.prog.fieldsOf 142, by kernel_rfl, by kernel_rfl, by kernel_rfl⟩
instance : TZero Tryz.prog 142 (.agg #[.pointer none, .slice none 0 0]) := ⟨by kernel_rfl⟩
instance : ESize Tryz.prog 142 2 32 := ⟨by kernel_rfl⟩
-- 143: strings.Builder
instance : TAgg Tryz.prog 143 2 := ⟨by kernel_rfl, by kernel_rfl⟩
instance : FOff Tryz.prog 143 0 0 := ⟨0, by kernel_rfl⟩
instance : FOff Tryz.prog 143 1 1 := ⟨0, by kernel_rfl⟩
instance : TPlaces Tryz.prog 143 [(0, 1), (1, 1)] := ⟨Tryz.prog.fieldsOf 143, by kernel_rfl, by kernel_rfl, by kernel_rfl⟩
instance : TZero Tryz.prog 143 (.agg #[.pointer none, .slice none 0 0]) := ⟨by kernel_rfl⟩
instance : ESize Tryz.prog 143 2 32 := ⟨by kernel_rfl⟩
-- 145: func(string) (string, int, api.Errno)
instance : TSc Tryz.prog 145 := ⟨by kernel_rfl, by kernel_rfl⟩
instance : TZero Tryz.prog 145 (.nilFunc) := ⟨by kernel_rfl⟩
instance : ESize Tryz.prog 145 1 8 := ⟨by kernel_rfl⟩
-- 146: func(string) bool
instance : TSc Tryz.prog 146 := ⟨by kernel_rfl, by kernel_rfl⟩
instance : TZero Tryz.prog 146 (.nilFunc) := ⟨by kernel_rfl⟩
instance : ESize Tryz.prog 146 1 8 := ⟨by kernel_rfl⟩
-- 147: func(string, func(disk.file) api.Errno, func(disk.file)) api.Errno
instance : TSc Tryz.prog 147 := ⟨by kernel_rfl, by kernel_rfl⟩
instance : TZero Tryz.prog 147 (.nilFunc) := ⟨by kernel_rfl⟩
instance : ESize Tryz.prog 147 1 8 := ⟨by kernel_rfl⟩
-- 148: func(disk.file) api.Errno
instance : TSc Tryz.prog 148 := ⟨by kernel_rfl, by kernel_rfl⟩
instance : TZero Tryz.prog 148 (.nilFunc) := ⟨by kernel_rfl⟩
instance : ESize Tryz.prog 148 1 8 := ⟨by kernel_rfl⟩
-- 149: func(disk.file)
instance : TSc Tryz.prog 149 := ⟨by kernel_rfl, by kernel_rfl⟩
instance : TZero Tryz.prog 149 (.nilFunc) := ⟨by kernel_rfl⟩
instance : ESize Tryz.prog 149 1 8 := ⟨by kernel_rfl⟩
-- 150: func([]api.Entry, func(api.Entry) bool) int
instance : TSc Tryz.prog 150 := ⟨by kernel_rfl, by kernel_rfl⟩
instance : TZero Tryz.prog 150 (.nilFunc) := ⟨by kernel_rfl⟩
instance : ESize Tryz.prog 150 1 8 := ⟨by kernel_rfl⟩
-- 151: func(...string) string
instance : TSc Tryz.prog 151 := ⟨by kernel_rfl, by kernel_rfl⟩
instance : TZero Tryz.prog 151 (.nilFunc) := ⟨by kernel_rfl⟩
instance : ESize Tryz.prog 151 1 8 := ⟨by kernel_rfl⟩
-- 152: func([]string, string) bool
instance : TSc Tryz.prog 152 := ⟨by kernel_rfl, by kernel_rfl⟩
instance : TZero Tryz.prog 152 (.nilFunc) := ⟨by kernel_rfl⟩
instance : ESize Tryz.prog 152 1 8 := ⟨by kernel_rfl⟩
-- 153: *codec.writer
instance : TSc Tryz.prog 153 := ⟨by kernel_rfl, by kernel_rfl⟩
instance : TPtr Tryz.prog 153 155 := ⟨by kernel_rfl⟩
instance : TZero Tryz.prog 153 (.pointer none) := ⟨by kernel_rfl⟩
instance : ESize Tryz.prog 153 1 8 := ⟨by kernel_rfl⟩
-- 154: struct { strings.Builder }
instance : TAgg Tryz.prog 154 2 := ⟨by kernel_rfl, by kernel_rfl⟩
instance : FOff Tryz.prog 154 0 0 := ⟨1, by kernel_rfl⟩
instance : TPlaces Tryz.prog 154 [(0, 2)] := ⟨Tryz.prog.fieldsOf 154, by kernel_rfl, by kernel_rfl, by kernel_rfl⟩
instance : TZero Tryz.prog 154 (.agg #[.pointer none, .slice none 0 0]) := ⟨by kernel_rfl⟩
instance : ESize Tryz.prog 154 2 32 := ⟨by kernel_rfl⟩
-- 155: codec.writer
instance : TAgg Tryz.prog 155 2 := ⟨by kernel_rfl, by kernel_rfl⟩
instance : FOff Tryz.prog 155 0 0 := ⟨1, by kernel_rfl⟩
instance : TPlaces Tryz.prog 155 [(0, 2)] := ⟨Tryz.prog.fieldsOf 155, by kernel_rfl, by kernel_rfl, by kernel_rfl⟩
instance : TZero Tryz.prog 155 (.agg #[.pointer none, .slice none 0 0]) := ⟨by kernel_rfl⟩
instance : ESize Tryz.prog 155 2 32 := ⟨by kernel_rfl⟩
-- 156: func([]int, func(int))
instance : TSc Tryz.prog 156 := ⟨by kernel_rfl, by kernel_rfl⟩
instance : TZero Tryz.prog 156 (.nilFunc) := ⟨by kernel_rfl⟩
instance : ESize Tryz.prog 156 1 8 := ⟨by kernel_rfl⟩
-- 158: func(string) (int, api.Errno)
instance : TSc Tryz.prog 158 := ⟨by kernel_rfl, by kernel_rfl⟩
instance : TZero Tryz.prog 158 (.nilFunc) := ⟨by kernel_rfl⟩
instance : ESize Tryz.prog 158 1 8 := ⟨by kernel_rfl⟩
-- 160: func(string) (kioskref3.Record, bool)
instance : TSc Tryz.prog 160 := ⟨by kernel_rfl, by kernel_rfl⟩
instance : TZero Tryz.prog 160 (.nilFunc) := ⟨by kernel_rfl⟩
instance : ESize Tryz.prog 160 1 8 := ⟨by kernel_rfl⟩
-- 161: func(int) []kioskref2.File
instance : TSc Tryz.prog 161 := ⟨by kernel_rfl, by kernel_rfl⟩
instance : TZero Tryz.prog 161 (.nilFunc) := ⟨by kernel_rfl⟩
instance : ESize Tryz.prog 161 1 8 := ⟨by kernel_rfl⟩
-- 162: func(uint32) string
instance : TSc Tryz.prog 162 := ⟨by kernel_rfl, by kernel_rfl⟩
instance : TZero Tryz.prog 162 (.nilFunc) := ⟨by kernel_rfl⟩
instance : ESize Tryz.prog 162 1 8 := ⟨by kernel_rfl⟩
-- 163: uint32
instance : TSc Tryz.prog 163 := ⟨by kernel_rfl, by kernel_rfl⟩
instance : TInt Tryz.prog 163 .u32 := ⟨by kernel_rfl⟩
instance : TZero Tryz.prog 163 (.int .u32 0) := ⟨by kernel_rfl⟩
instance : ESize Tryz.prog 163 1 4 := ⟨by kernel_rfl⟩
-- 164: func(string) uint32
instance : TSc Tryz.prog 164 := ⟨by kernel_rfl, by kernel_rfl⟩
instance : TZero Tryz.prog 164 (.nilFunc) := ⟨by kernel_rfl⟩
instance : ESize Tryz.prog 164 1 8 := ⟨by kernel_rfl⟩
-- 165: func(string) string
instance : TSc Tryz.prog 165 := ⟨by kernel_rfl, by kernel_rfl⟩
instance : TZero Tryz.prog 165 (.nilFunc) := ⟨by kernel_rfl⟩
instance : ESize Tryz.prog 165 1 8 := ⟨by kernel_rfl⟩
-- 166: func([]string)
instance : TSc Tryz.prog 166 := ⟨by kernel_rfl, by kernel_rfl⟩
instance : TZero Tryz.prog 166 (.nilFunc) := ⟨by kernel_rfl⟩
instance : ESize Tryz.prog 166 1 8 := ⟨by kernel_rfl⟩
-- 168: func(string, uint8) string
instance : TSc Tryz.prog 168 := ⟨by kernel_rfl, by kernel_rfl⟩
instance : TZero Tryz.prog 168 (.nilFunc) := ⟨by kernel_rfl⟩
instance : ESize Tryz.prog 168 1 8 := ⟨by kernel_rfl⟩
-- 172: func(string) (strings.asciiSet, bool)
instance : TSc Tryz.prog 172 := ⟨by kernel_rfl, by kernel_rfl⟩
instance : TZero Tryz.prog 172 (.nilFunc) := ⟨by kernel_rfl⟩
instance : ESize Tryz.prog 172 1 8 := ⟨by kernel_rfl⟩
-- 173: func(string, *strings.asciiSet) string
instance : TSc Tryz.prog 173 := ⟨by kernel_rfl, by kernel_rfl⟩
instance : TZero Tryz.prog 173 (.nilFunc) := ⟨by kernel_rfl⟩
instance : ESize Tryz.prog 173 1 8 := ⟨by kernel_rfl⟩
-- 174: *strings.asciiSet
instance : TSc Tryz.prog 174 := ⟨by kernel_rfl, by kernel_rfl⟩
instance : TPtr Tryz.prog 174 170 := ⟨by kernel_rfl⟩
instance : TZero Tryz.prog 174 (.pointer none) := ⟨by kernel_rfl⟩
instance : ESize Tryz.prog 174 1 8 := ⟨by kernel_rfl⟩
-- 175: func(string, string, int, int, error) error
instance : TSc Tryz.prog 175 := ⟨by kernel_rfl, by kernel_rfl⟩
instance : TZero Tryz.prog 175 (.nilFunc) := ⟨by kernel_rfl⟩
instance : ESize Tryz.prog 175 1 8 := ⟨by kernel_rfl⟩
-- 176: func([]int, int, int)
instance : TSc Tryz.prog 176 := ⟨by kernel_rfl, by kernel_rfl⟩
instance : TZero Tryz.prog 176 (.nilFunc) := ⟨by kernel_rfl⟩
instance : ESize Tryz.prog 176 1 8 := ⟨by kernel_rfl⟩
-- 177: slices.sortedHint
instance : TSc Tryz.prog 177 := ⟨by kernel_rfl, by kernel_rfl⟩
instance : TInt Tryz.prog 177 .i64 := ⟨by kernel_rfl⟩
instance : TZero Tryz.prog 177 (.int .i64 0) := ⟨by kernel_rfl⟩
instance : ESize Tryz.prog 177 1 8 := ⟨by kernel_rfl⟩
-- 179: func([]int, int, int) (int, slices.sortedHint)
instance : TSc Tryz.prog 179 := ⟨by kernel_rfl, by kernel_rfl⟩
instance : TZero Tryz.prog 179 (.nilFunc) := ⟨by kernel_rfl⟩
instance : ESize Tryz.prog 179 1 8 := ⟨by kernel_rfl⟩
-- 180: func([]int, int, int) bool
instance : TSc Tryz.prog 180 := ⟨by kernel_rfl, by kernel_rfl⟩
instance : TZero Tryz.prog 180 (.nilFunc) := ⟨by kernel_rfl⟩
instance : ESize Tryz.prog 180 1 8 := ⟨by kernel_rfl⟩
-- 181: func(int, int) bool
instance : TSc Tryz.prog 181 := ⟨by kernel_rfl, by kernel_rfl⟩
instance : TZero Tryz.prog 181 (.nilFunc) := ⟨by kernel_rfl⟩
instance : ESize Tryz.prog 181 1 8 := ⟨by kernel_rfl⟩
-- 182: func([]int, int, int, int) int
instance : TSc Tryz.prog 182 := ⟨by kernel_rfl, by kernel_rfl⟩
instance : TZero Tryz.prog 182 (.nilFunc) := ⟨by kernel_rfl⟩
instance : ESize Tryz.prog 182 1 8 := ⟨by kernel_rfl⟩
-- 184: func([]int, int, int, int) (int, bool)
instance : TSc Tryz.prog 184 := ⟨by kernel_rfl, by kernel_rfl⟩
instance : TZero Tryz.prog 184 (.nilFunc) := ⟨by kernel_rfl⟩
instance : ESize Tryz.prog 184 1 8 := ⟨by kernel_rfl⟩
-- 185: func(uint32) int
instance : TSc Tryz.prog 185 := ⟨by kernel_rfl, by kernel_rfl⟩
instance : TZero Tryz.prog 185 (.nilFunc) := ⟨by kernel_rfl⟩
instance : ESize Tryz.prog 185 1 8 := ⟨by kernel_rfl⟩
-- 186: func(uint64) int
instance : TSc Tryz.prog 186 := ⟨by kernel_rfl, by kernel_rfl⟩
instance : TZero Tryz.prog 186 (.nilFunc) := ⟨by kernel_rfl⟩
instance : ESize Tryz.prog 186 1 8 := ⟨by kernel_rfl⟩
-- 187: uint64
instance : TSc Tryz.prog 187 := ⟨by kernel_rfl, by kernel_rfl⟩
instance : TInt Tryz.prog 187 .u64 := ⟨by kernel_rfl⟩
instance : TZero Tryz.prog 187 (.int .u64 0) := ⟨by kernel_rfl⟩
instance : ESize Tryz.prog 187 1 8 := ⟨by kernel_rfl⟩
-- 188: func(uint32, string) uint32
instance : TSc Tryz.prog 188 := ⟨by kernel_rfl, by kernel_rfl⟩
instance : TZero Tryz.prog 188 (.nilFunc) := ⟨by kernel_rfl⟩
instance : ESize Tryz.prog 188 1 8 := ⟨by kernel_rfl⟩
-- 189: *uint8
instance : TSc Tryz.prog 189 := ⟨by kernel_rfl, by kernel_rfl⟩
instance : TPtr Tryz.prog 189 5 := ⟨by kernel_rfl⟩
instance : TZero Tryz.prog 189 (.pointer none) := ⟨by kernel_rfl⟩
instance : ESize Tryz.prog 189 1 8 := ⟨by kernel_rfl⟩
-- 191: func(string) (int, string, bool)
instance : TSc Tryz.prog 191 := ⟨by kernel_rfl, by kernel_rfl⟩
instance : TZero Tryz.prog 191 (.nilFunc) := ⟨by kernel_rfl⟩
instance : ESize Tryz.prog 191 1 8 := ⟨by kernel_rfl⟩
-- 193: func(string, int) ([]int, string, bool)
instance : TSc Tryz.prog 193 := ⟨by kernel_rfl, by kernel_rfl⟩
instance : TZero Tryz.prog 193 (.nilFunc) := ⟨by kernel_rfl⟩
instance : ESize Tryz.prog 193 1 8 := ⟨by kernel_rfl⟩
-- 195: func(string) (string, string, bool)
instance : TSc Tryz.prog 195 := ⟨by kernel_rfl, by kernel_rfl⟩
instance : TZero Tryz.prog 195 (.nilFunc) := ⟨by kernel_rfl⟩
instance : ESize Tryz.prog 195 1 8 := ⟨by kernel_rfl⟩
-- 196: func([]string, func(string))
instance : TSc Tryz.prog 196 := ⟨by kernel_rfl, by kernel_rfl⟩
instance : TZero Tryz.prog 196 (.nilFunc) := ⟨by kernel_rfl⟩
instance : ESize Tryz.prog 196 1 8 := ⟨by kernel_rfl⟩
-- 197: func(string)
instance : TSc Tryz.prog 197 := ⟨by kernel_rfl, by kernel_rfl⟩
instance : TZero Tryz.prog 197 (.nilFunc) := ⟨by kernel_rfl⟩
instance : ESize Tryz.prog 197 1 8 := ⟨by kernel_rfl⟩
-- 198: func([]string, string) int
instance : TSc Tryz.prog 198 := ⟨by kernel_rfl, by kernel_rfl⟩
instance : TZero Tryz.prog 198 (.nilFunc) := ⟨by kernel_rfl⟩
instance : ESize Tryz.prog 198 1 8 := ⟨by kernel_rfl⟩
-- 199: func(uint64)
instance : TSc Tryz.prog 199 := ⟨by kernel_rfl, by kernel_rfl⟩
instance : TZero Tryz.prog 199 (.nilFunc) := ⟨by kernel_rfl⟩
instance : ESize Tryz.prog 199 1 8 := ⟨by kernel_rfl⟩
-- 200: func(string) (int, bool)
instance : TSc Tryz.prog 200 := ⟨by kernel_rfl, by kernel_rfl⟩
instance : TZero Tryz.prog 200 (.nilFunc) := ⟨by kernel_rfl⟩
instance : ESize Tryz.prog 200 1 8 := ⟨by kernel_rfl⟩
-- 201: func(kioskref2.File) []kioskref2.File
instance : TSc Tryz.prog 201 := ⟨by kernel_rfl, by kernel_rfl⟩
instance : TZero Tryz.prog 201 (.nilFunc) := ⟨by kernel_rfl⟩
instance : ESize Tryz.prog 201 1 8 := ⟨by kernel_rfl⟩
-- 202: [4]int
instance : TAgg Tryz.prog 202 4 := ⟨by kernel_rfl, by kernel_rfl⟩
instance : TZero Tryz.prog 202 (.agg #[.int .i64 0, .int .i64 0, .int .i64 0, .int .i64 0]) := ⟨by kernel_rfl⟩
instance : ESize Tryz.prog 202 4 32 := ⟨by kernel_rfl⟩
-- 203: func(int) uint64
instance : TSc Tryz.prog 203 := ⟨by kernel_rfl, by kernel_rfl⟩
instance : TZero Tryz.prog 203 (.nilFunc) := ⟨by kernel_rfl⟩
instance : ESize Tryz.prog 203 1 8 := ⟨by kernel_rfl⟩
-- 204: func(int64, int) string
instance : TSc Tryz.prog 204 := ⟨by kernel_rfl, by kernel_rfl⟩
instance : TZero Tryz.prog 204 (.nilFunc) := ⟨by kernel_rfl⟩
instance : ESize Tryz.prog 204 1 8 := ⟨by kernel_rfl⟩
-- 205: func([]string, iter.Seq[string]) []string
instance : TSc Tryz.prog 205 := ⟨by kernel_rfl, by kernel_rfl⟩
instance : TZero Tryz.prog 205 (.nilFunc) := ⟨by kernel_rfl⟩
instance : ESize Tryz.prog 205 1 8 := ⟨by kernel_rfl⟩
-- 206: func([]string, int, int, int)
instance : TSc Tryz.prog 206 := ⟨by kernel_rfl, by kernel_rfl⟩
instance : TZero Tryz.prog 206 (.nilFunc) := ⟨by kernel_rfl⟩
instance : ESize Tryz.prog 206 1 8 := ⟨by kernel_rfl⟩
-- 207: func(string, string) bool
instance : TSc Tryz.prog 207 := ⟨by kernel_rfl, by kernel_rfl⟩
instance : TZero Tryz.prog 207 (.nilFunc) := ⟨by kernel_rfl⟩
instance : ESize Tryz.prog 207 1 8 := ⟨by kernel_rfl⟩
-- 208: func(uint8) bool
instance : TSc Tryz.prog 208 := ⟨by kernel_rfl, by kernel_rfl⟩
instance : TZero Tryz.prog 208 (.nilFunc) := ⟨by kernel_rfl⟩
instance : ESize Tryz.prog 208 1 8 := ⟨by kernel_rfl⟩
-- 210: func(string) (int32, int)
instance : TSc Tryz.prog 210 := ⟨by kernel_rfl, by kernel_rfl⟩
instance : TZero Tryz.prog 210 (.nilFunc) := ⟨by kernel_rfl⟩
instance : ESize Tryz.prog 210 1 8 := ⟨by kernel_rfl⟩
-- 211: func(string, int32) bool
instance : TSc Tryz.prog 211 := ⟨by kernel_rfl, by kernel_rfl⟩
instance : TZero Tryz.prog 211 (.nilFunc) := ⟨by kernel_rfl⟩
instance : ESize Tryz.prog 211 1 8 := ⟨by kernel_rfl⟩
-- 212: strconv.Error
instance : TSc Tryz.prog 212 := ⟨by kernel_rfl, by kernel_rfl⟩
instance : TInt Tryz.prog 212 .i64 := ⟨by kernel_rfl⟩
instance : TZero Tryz.prog 212 (.int .i64 0) := ⟨by kernel_rfl⟩
instance : ESize Tryz.prog 212 1 8 := ⟨by kernel_rfl⟩
-- 214: func(string, int, int) (int64, error)
instance : TSc Tryz.prog 214 := ⟨by kernel_rfl, by kernel_rfl⟩
instance : TZero Tryz.prog 214 (.nilFunc) := ⟨by kernel_rfl⟩
instance : ESize Tryz.prog 214 1 8 := ⟨by kernel_rfl⟩
-- 215: *strconv.NumError
instance : TSc Tryz.prog 215 := ⟨by kernel_rfl, by kernel_rfl⟩
instance : TPtr Tryz.prog 215 241 := ⟨by kernel_rfl⟩
instance : TZero Tryz.prog 215 (.pointer none) := ⟨by kernel_rfl⟩
instance : ESize Tryz.prog 215 1 8 := ⟨by kernel_rfl⟩
-- 216: func(string, string) *strconv.NumError
instance : TSc Tryz.prog 216 := ⟨by kernel_rfl, by kernel_rfl⟩
instance : TZero Tryz.prog 216 (.nilFunc) := ⟨by kernel_rfl⟩
instance : ESize Tryz.prog 216 1 8 := ⟨by kernel_rfl⟩
-- 217: func(string, string, int) *strconv.NumError
instance : TSc Tryz.prog 217 := ⟨by kernel_rfl, by kernel_rfl⟩
instance : TZero Tryz.prog 217 (.nilFunc) := ⟨by kernel_rfl⟩
instance : ESize Tryz.prog 217 1 8 := ⟨by kernel_rfl⟩
-- 218: slices.xorshift
instance : TSc Tryz.prog 218 := ⟨by kernel_rfl, by kernel_rfl⟩
instance : TInt Tryz.prog 218 .u64 := ⟨by kernel_rfl⟩
instance : TZero Tryz.prog 218 (.int .u64 0) := ⟨by kernel_rfl⟩
instance : ESize Tryz.prog 218 1 8 := ⟨by kernel_rfl⟩
-- 219: func(int) uint
instance : TSc Tryz.prog 219 := ⟨by kernel_rfl, by kernel_rfl⟩
instance : TZero Tryz.prog 219 (.nilFunc) := ⟨by kernel_rfl⟩
instance : ESize Tryz.prog 219 1 8 := ⟨by kernel_rfl⟩
-- 220: func() uint64
instance : TSc Tryz.prog 220 := ⟨by kernel_rfl, by kernel_rfl⟩
instance : TZero Tryz.prog 220 (.nilFunc) := ⟨by kernel_rfl⟩
instance : ESize Tryz.prog 220 1 8 := ⟨by kernel_rfl⟩
-- 221: func([]int, int, *int) int
instance : TSc Tryz.prog 221 := ⟨by kernel_rfl, by kernel_rfl⟩
instance : TZero Tryz.prog 221 (.nilFunc) := ⟨by kernel_rfl⟩
instance : ESize Tryz.prog 221 1 8 := ⟨by kernel_rfl⟩
-- 222: *int
instance : TSc Tryz.prog 222 := ⟨by kernel_rfl, by kernel_rfl⟩
instance : TPtr Tryz.prog 222 3 := ⟨by kernel_rfl⟩
instance : TZero Tryz.prog 222 (.pointer none) := ⟨by kernel_rfl⟩
instance : ESize Tryz.prog 222 1 8 := ⟨by kernel_rfl⟩
-- 223: func([]int, int, int, int, *int) int
instance : TSc Tryz.prog 223 := ⟨by kernel_rfl, by kernel_rfl⟩
instance : TZero Tryz.prog 223 (.nilFunc) := ⟨by kernel_rfl⟩
instance : ESize Tryz.prog 223 1 8 := ⟨by kernel_rfl⟩
-- 224: func(int) bool
instance : TSc Tryz.prog 224 := ⟨by kernel_rfl, by kernel_rfl⟩
instance : TZero Tryz.prog 224 (.nilFunc) := ⟨by kernel_rfl⟩
instance : ESize Tryz.prog 224 1 8 := ⟨by kernel_rfl⟩
-- 226: func(unsafe.Pointer) unsafe.Pointer
instance : TSc Tryz.prog 226 := ⟨by kernel_rfl, by kernel_rfl⟩
instance : TZero Tryz.prog 226 (.nilFunc) := ⟨by kernel_rfl⟩
instance : ESize Tryz.prog 226 1 8 := ⟨by kernel_rfl⟩
-- 227: func(uint8) error
instance : TSc Tryz.prog 227 := ⟨by kernel_rfl, by kernel_rfl⟩
instance : TZero Tryz.prog 227 (.nilFunc) := ⟨by kernel_rfl⟩
instance : ESize Tryz.prog 227 1 8 := ⟨by kernel_rfl⟩
-- 228: [24]uint8
instance : TAgg Tryz.prog 228 24 := ⟨by kernel_rfl, by kernel_rfl⟩
instance : TZero Tryz.prog 228 (.agg #[.int .u8 0, .int .u8 0, .int .u8 0, .int .u8 0, .int .u8 0, .int .u8 0, .int .u8 0, .int .u8 0, .int .u8 0, .int .u8 0, .int .u8 0, .int .u8 0, .int .u8 0, .int .u8 0, .int .u8 0, .int .u8 0, .int .u8 0, .int .u8 0, .int .u8 0, .int .u8 0, .int .u8 0, .int .u8 0, .int .u8 0, .int .u8 0]) := ⟨by kernel_rfl⟩
instance : ESize Tryz.prog 228 24 24 := ⟨by kernel_rfl⟩
-- 229: func([]uint8, uint64)
instance : TSc Tryz.prog 229 := ⟨by kernel_rfl, by kernel_rfl⟩
instance : TZero Tryz.prog 229 (.nilFunc) := ⟨by kernel_rfl⟩
instance : ESize Tryz.prog 229 1 8 := ⟨by kernel_rfl⟩
-- 231: func([]uint8, uint64, int, bool, bool) ([]uint8, string)
instance : TSc Tryz.prog 231 := ⟨by kernel_rfl, by kernel_rfl⟩
instance : TZero Tryz.prog 231 (.nilFunc) := ⟨by kernel_rfl⟩
instance : ESize Tryz.prog 231 1 8 := ⟨by kernel_rfl⟩
-- 232: func([]string, int, int)
instance : TSc Tryz.prog 232 := ⟨by kernel_rfl, by kernel_rfl⟩
instance : TZero Tryz.prog 232 (.nilFunc) := ⟨by kernel_rfl⟩
instance : ESize Tryz.prog 232 1 8 := ⟨by kernel_rfl⟩
-- 233: func([]string, int, int) (int, slices.sortedHint)
instance : TSc Tryz.prog 233 := ⟨by kernel_rfl, by kernel_rfl⟩
instance : TZero Tryz.prog 233 (.nilFunc) := ⟨by kernel_rfl⟩
instance : ESize Tryz.prog 233 1 8 := ⟨by kernel_rfl⟩
-- 234: func([]string, int, int) bool
instance : TSc Tryz.prog 234 := ⟨by kernel_rfl, by kernel_rfl⟩
instance : TZero Tryz.prog 234 (.nilFunc) := ⟨by kernel_rfl⟩
instance : ESize Tryz.prog 234 1 8 := ⟨by kernel_rfl⟩
-- 235: func([]string, int, int, int) int
instance : TSc Tryz.prog 235 := ⟨by kernel_rfl, by kernel_rfl⟩
instance : TZero Tryz.prog 235 (.nilFunc) := ⟨by kernel_rfl⟩
instance : ESize Tryz.prog 235 1 8 := ⟨by kernel_rfl⟩
-- 236: func([]string, int, int, int) (int, bool)
instance : TSc Tryz.prog 236 := ⟨by kernel_rfl, by kernel_rfl⟩
instance : TZero Tryz.prog 236 (.nilFunc) := ⟨by kernel_rfl⟩
instance : ESize Tryz.prog 236 1 8 := ⟨by kernel_rfl⟩
-- 237: func(string, int32) int
instance : TSc Tryz.prog 237 := ⟨by kernel_rfl, by kernel_rfl⟩
instance : TZero Tryz.prog 237 (.nilFunc) := ⟨by kernel_rfl⟩
instance : ESize Tryz.prog 237 1 8 := ⟨by kernel_rfl⟩
-- 239: func(string, int, int) (uint64, error)
instance : TSc Tryz.prog 239 := ⟨by kernel_rfl, by kernel_rfl⟩
instance : TZero Tryz.prog 239 (.nilFunc) := ⟨by kernel_rfl⟩
instance : ESize Tryz.prog 239 1 8 := ⟨by kernel_rfl⟩
-- 240: struct { Func string; Num string; Err error }
instance : TAgg Tryz.prog 240 3 := ⟨by kernel_rfl, by kernel_rfl⟩
instance : FOff Tryz.prog 240 0 0 := ⟨0, by kernel_rfl⟩
instance : FOff Tryz.prog 240 1 1 := ⟨0, by kernel_rfl⟩
instance : FOff Tryz.prog 240 2 2 := ⟨0, by kernel_rfl⟩
instance : TPlaces Tryz.prog 240 [(0, 1), (1, 1), (2, 1)] := ⟨Tryz.prog.fieldsOf 240, by kernel_rfl, by kernel_rfl, by kernel_rfl⟩
instance : TZero Tryz.prog 240 (.agg #[.string ⟨#[]⟩, .string ⟨#[]⟩, .nilIface]) := ⟨by kernel_rfl⟩
instance : ESize Tryz.prog 240 3 48 := ⟨by kernel_rfl⟩
-- 241: strconv.NumError
instance : TAgg Tryz.prog 241 3 := ⟨by kernel_rfl, by kernel_rfl⟩
instance : FOff Tryz.prog 241 0 0 := ⟨0, by kernel_rfl⟩
instance : FOff Tryz.prog 241 1 1 := ⟨0, by kernel_rfl⟩
instance : FOff Tryz.prog 241 2 2 := ⟨0, by kernel_rfl⟩
instance : TPlaces Tryz.prog 241 [(0, 1), (1, 1), (2, 1)] := ⟨Tryz.prog.fieldsOf 241, by kernel_rfl, by kernel_rfl, by kernel_rfl⟩
instance : TZero Tryz.prog 241 (.agg #[.string ⟨#[]⟩, .string ⟨#[]⟩, .nilIface]) := ⟨by kernel_rfl⟩
instance : ESize Tryz.prog 241 3 48 := ⟨by kernel_rfl⟩
-- 242: func(string) error
instance : TSc Tryz.prog 242 := ⟨by kernel_rfl, by kernel_rfl⟩
instance : TZero Tryz.prog 242 (.nilFunc) := ⟨by kernel_rfl⟩
instance : ESize Tryz.prog 242 1 8 := ⟨by kernel_rfl⟩
-- 243: *slices.xorshift
instance : TSc Tryz.prog 243 := ⟨by kernel_rfl, by kernel_rfl⟩
instance : TPtr Tryz.prog 243 218 := ⟨by kernel_rfl⟩
instance : TZero Tryz.prog 243 (.pointer none) := ⟨by kernel_rfl⟩
instance : ESize Tryz.prog 243 1 8 := ⟨by kernel_rfl⟩
-- 245: func([]int, int, int, *int) (int, int)
instance : TSc Tryz.prog 245 := ⟨by kernel_rfl, by kernel_rfl⟩
instance : TZero Tryz.prog 245 (.nilFunc) := ⟨by kernel_rfl⟩
instance : ESize Tryz.prog 245 1 8 := ⟨by kernel_rfl⟩
-- 246: func(int) int
instance : TSc Tryz.prog 246 := ⟨by kernel_rfl, by kernel_rfl⟩
instance : TZero Tryz.prog 246 (.nilFunc) := ⟨by kernel_rfl⟩
instance : ESize Tryz.prog 246 1 8 := ⟨by kernel_rfl⟩
-- 247: func(bool) int
instance : TSc Tryz.prog 247 := ⟨by kernel_rfl, by kernel_rfl⟩
instance : TZero Tryz.prog 247 (.nilFunc) := ⟨by kernel_rfl⟩
instance : ESize Tryz.prog 247 1 8 := ⟨by kernel_rfl⟩
-- 248: [20]uint64
instance : TAgg Tryz.prog 248 20 := ⟨by kernel_rfl, by kernel_rfl⟩
instance : TZero Tryz.prog 248 (.agg #[.int .u64 0, .int .u64 0, .int .u64 0, .int .u64 0, .int .u64 0, .int .u64 0, .int .u64 0, .int .u64 0, .int .u64 0, .int .u64 0, .int .u64 0, .int .u64 0, .int .u64 0, .int .u64 0, .int .u64 0, .int .u64 0, .int .u64 0, .int .u64 0, .int .u64 0, .int .u64 0]) := ⟨by kernel_rfl⟩
instance : ESize Tryz.prog 248 20 160 := ⟨by kernel_rfl⟩
-- 250: func([]string, int, *int) int
instance : TSc Tryz.prog 250 := ⟨by kernel_rfl, by kernel_rfl⟩
instance : TZero Tryz.prog 250 (.nilFunc) := ⟨by kernel_rfl⟩
instance : ESize Tryz.prog 250 1 8 := ⟨by kernel_rfl⟩
-- 251: func([]string, int, int, int, *int) int
instance : TSc Tryz.prog 251 := ⟨by kernel_rfl, by kernel_rfl⟩
instance : TZero Tryz.prog 251 (.nilFunc) := ⟨by kernel_rfl⟩
instance : ESize Tryz.prog 251 1 8 := ⟨by kernel_rfl⟩
-- 253: struct { lo uint8; hi uint8 }
instance : TAgg Tryz.prog 253 2 := ⟨by kernel_rfl, by kernel_rfl⟩
instance : FOff Tryz.prog 253 0 0 := ⟨0, by kernel_rfl⟩
instance : FOff Tryz.prog 253 1 1 := ⟨0, by kernel_rfl⟩
instance : TPlaces Tryz.prog 253 [(0, 1), (1, 1)] := ⟨Tryz.prog.fieldsOf 253, by kernel_rfl, by kernel_rfl, by kernel_rfl⟩
instance : TFlatK Tryz.prog 253 [.int .u8, .int .u8] := { u := by kernel_rfl, s := by kernel_rfl, g := by kernel_rfl, f := by kernel_rfl, k := by kernel_rfl }
instance : TZero Tryz.prog 253 (.agg #[.int .u8 0, .int .u8 0]) := ⟨by kernel_rfl⟩
instance : ESize Tryz.prog 253 2 2 := ⟨by kernel_rfl⟩
-- 254: utf8.acceptRange
instance : TAgg Tryz.prog 254 2 := ⟨by kernel_rfl, by kernel_rfl⟩
instance : FOff Tryz.prog 254 0 0 := ⟨0, by kernel_rfl⟩
instance : FOff Tryz.prog 254 1 1 := ⟨0, by kernel_rfl⟩
instance : TPlaces Tryz.prog 254 [(0, 1), (1, 1)] := ⟨Tryz.prog.fieldsOf 254, by kernel_rfl, by kernel_rfl, by kernel_rfl⟩
instance : TFlatK Tryz.prog 254 [.int .u8, .int .u8] := { u := by kernel_rfl, s := by kernel_rfl, g := by kernel_rfl, f := by kernel_rfl, k := by kernel_rfl }
instance : TZero Tryz.prog 254 (.agg #[.int .u8 0, .int .u8 0]) := ⟨by kernel_rfl⟩
instance : ESize Tryz.prog 254 2 2 := ⟨by kernel_rfl⟩
-- 255: [16]utf8.acceptRange
instance : TAgg Tryz.prog 255 32 := ⟨by kernel_rfl, by kernel_rfl⟩
instance : TZero Tryz.prog 255 (.agg #[.int .u8 0, .int .u8 0, .int .u8 0, .int .u8 0, .int .u8 0, .int .u8 0, .int .u8 0, .int .u8 0, .int .u8 0, .int .u8 0, .int .u8 0, .int .u8 0, .int .u8 0, .int .u8 0, .int .u8 0, .int .u8 0, .int .u8 0, .int .u8 0, .int .u8 0, .int .u8 0, .int .u8 0, .int .u8 0, .int .u8 0, .int .u8 0, .int .u8 0, .int .u8 0, .int .u8 0, .int .u8 0, .int .u8 0, .int .u8 0, .int .u8 0, .int .u8 0]) := ⟨by kernel_rfl⟩
instance : ESize Tryz.prog 255 32 32 := ⟨by kernel_rfl⟩
-- 256: func(string, uint8) int
instance : TSc Tryz.prog 256 := ⟨by kernel_rfl, by kernel_rfl⟩
instance : TZero Tryz.prog 256 (.nilFunc) := ⟨by kernel_rfl⟩
instance : ESize Tryz.prog 256 1 8 := ⟨by kernel_rfl⟩
-- 257: func(int32) bool
instance : TSc Tryz.prog 257 := ⟨by kernel_rfl, by kernel_rfl⟩
instance : TZero Tryz.prog 257 (.nilFunc) := ⟨by kernel_rfl⟩
instance : ESize Tryz.prog 257 1 8 := ⟨by kernel_rfl⟩
-- 258: func(string, string) int
instance : TSc Tryz.prog 258 := ⟨by kernel_rfl, by kernel_rfl⟩
instance : TZero Tryz.prog 258 (.nilFunc) := ⟨by kernel_rfl⟩
instance : ESize Tryz.prog 258 1 8 := ⟨by kernel_rfl⟩
-- 259: func(uint8) uint8
instance : TSc Tryz.prog 259 := ⟨by kernel_rfl, by kernel_rfl⟩
instance : TZero Tryz.prog 259 (.nilFunc) := ⟨by kernel_rfl⟩
instance : ESize Tryz.prog 259 1 8 := ⟨by kernel_rfl⟩
-- 260: *errors.errorString
instance : TSc Tryz.prog 260 := ⟨by kernel_rfl, by kernel_rfl⟩
instance : TPtr Tryz.prog 260 262 := ⟨by kernel_rfl⟩
instance : TZero Tryz.prog 260 (.pointer none) := ⟨by kernel_rfl⟩
instance : ESize Tryz.prog 260 1 8 := ⟨by kernel_rfl⟩
-- 261: struct { s string }
instance : TAgg Tryz.prog 261 1 := ⟨by kernel_rfl, by kernel_rfl⟩
instance : FOff Tryz.prog 261 0 0 := ⟨0, by kernel_rfl⟩
instance : TPlaces Tryz.prog 261 [(0, 1)] := ⟨Tryz.prog.fieldsOf 261, by kernel_rfl, by kernel_rfl, by kernel_rfl⟩
instance : TFlatK Tryz.prog 261 [.str] := { u := by kernel_rfl, s := by kernel_rfl, g := by kernel_rfl, f := by kernel_rfl, k := by kernel_rfl }
instance : TZero Tryz.prog 261 (.agg #[.string ⟨#[]⟩]) := ⟨by kernel_rfl⟩
instance : ESize Tryz.prog 261 1 16 := ⟨by kernel_rfl⟩
-- 262: errors.errorString
instance : TAgg Tryz.prog 262 1 := ⟨by kernel_rfl, by kernel_rfl⟩
instance : FOff Tryz.prog 262 0 0 := ⟨0, by kernel_rfl⟩
instance : TPlaces Tryz.prog 262 [(0, 1)] := ⟨Tryz.prog.fieldsOf 262, by kernel_rfl, by kernel_rfl, by kernel_rfl⟩
instance : TFlatK Tryz.prog 262 [.str] := { u := by kernel_rfl, s := by kernel_rfl, g := by kernel_rfl, f := by kernel_rfl, k := by kernel_rfl }
instance : TZero Tryz.prog 262 (.agg #[.string ⟨#[]⟩]) := ⟨by kernel_rfl⟩
instance : ESize Tryz.prog 262 1 16 := ⟨by kernel_rfl⟩
-- 263: func([]string, int, int, *int) (int, int)
instance : TSc Tryz.prog 263 := ⟨by kernel_rfl, by kernel_rfl⟩
instance : TZero Tryz.prog 263 (.nilFunc) := ⟨by kernel_rfl⟩
instance : ESize Tryz.prog 263 1 8 := ⟨by kernel_rfl⟩
-- 264: [32]uint8
instance : TAgg Tryz.prog 264 32 := ⟨by kernel_rfl, by kernel_rfl⟩
instance : TZero Tryz.prog 264 (.agg #[.int .u8 0, .int .u8 0, .int .u8 0, .int .u8 0, .int .u8 0, .int .u8 0, .int .u8 0, .int .u8 0, .int .u8 0, .int .u8 0, .int .u8 0, .int .u8 0, .int .u8 0, .int .u8 0, .int .u8 0, .int .u8 0, .int .u8 0, .int .u8 0, .int .u8 0, .int .u8 0, .int .u8 0, .int .u8 0, .int .u8 0, .int .u8 0, .int .u8 0, .int .u8 0, .int .u8 0, .int .u8 0, .int .u8 0, .int .u8 0, .int .u8 0, .int .u8 0]) := ⟨by kernel_rfl⟩
instance : ESize Tryz.prog 264 32 32 := ⟨by kernel_rfl⟩
-- 266: struct { _interface *abi.Type; concrete *abi.Type; asserted *abi.Type; missingMethod string }
instance : TAgg Tryz.prog 266 4 := ⟨by kernel_rfl, by kernel_rfl⟩
instance : FOff Tryz.prog 266 0 0 := ⟨0, by kernel_rfl⟩
instance : FOff Tryz.prog 266 1 1 := ⟨0, by kernel_rfl⟩
instance : FOff Tryz.prog 266 2 2 := ⟨0, by kernel_rfl⟩
instance : FOff Tryz.prog 266 3 3 := ⟨0, by kernel_rfl⟩
instance : TPlaces Tryz.prog 266 [(0, 1), (1, 1), (2, 1), (3, 1)] := ⟨Tryz.prog.fieldsOf 266, by kernel_rfl, by kernel_rfl, by kernel_rfl⟩
instance : TZero Tryz.prog 266 (.agg #[.pointer none, .pointer none, .pointer none, .string ⟨#[]⟩]) := ⟨by kernel_rfl⟩
instance : ESize Tryz.prog 266 4 40 := ⟨by kernel_rfl⟩
-- 267: runtime.TypeAssertionError
instance : TAgg Tryz.prog 267 4 := ⟨by kernel_rfl, by kernel_rfl⟩
instance : FOff Tryz.prog 267 0 0 := ⟨0, by kernel_rfl⟩
instance : FOff Tryz.prog 267 1 1 := ⟨0, by kernel_rfl⟩
instance : FOff Tryz.prog 267 2 2 := ⟨0, by kernel_rfl⟩
instance : FOff Tryz.prog 267 3 3 := ⟨0, by kernel_rfl⟩
instance : TPlaces Tryz.prog 267 [(0, 1), (1, 1), (2, 1), (3, 1)] := ⟨Tryz.prog.fieldsOf 267, by kernel_rfl, by kernel_rfl, by kernel_rfl⟩
instance : TZero Tryz.prog 267 (.agg #[.pointer none, .pointer none, .pointer none, .string ⟨#[]⟩]) := ⟨by kernel_rfl⟩
instance : ESize Tryz.prog 267 4 40 := ⟨by kernel_rfl⟩
-- 268: [0]*runtime.PanicNilError
instance : TAgg Tryz.prog 268 0 := ⟨by kernel_rfl, by kernel_rfl⟩
instance : TZero Tryz.prog 268 (.agg #[]) := ⟨by kernel_rfl⟩
instance : ESize Tryz.prog 268 0 0 := ⟨by kernel_rfl⟩
-- 269: struct { _ [0]*runtime.PanicNilError }
instance : TAgg Tryz.prog 269 0 := ⟨by kernel_rfl, by kernel_rfl⟩
instance : TPlaces Tryz.prog 269 [(0, 0)] := ⟨Tryz.prog.fieldsOf 269, by kernel_rfl, by kernel_rfl, by kernel_rfl⟩
instance : TZero Tryz.prog 269 (.agg #[]) := ⟨by kernel_rfl⟩
instance : ESize Tryz.prog 269 0 0 := ⟨by kernel_rfl⟩
-- 270: runtime.PanicNilError
instance : TAgg Tryz.prog 270 0 := ⟨by kernel_rfl, by kernel_rfl⟩
instance : TPlaces Tryz.prog 270 [(0, 0)] := ⟨Tryz.prog.fieldsOf 270, by kernel_rfl, by kernel_rfl, by kernel_rfl⟩
instance : TZero Tryz.prog 270 (.agg #[]) := ⟨by kernel_rfl⟩
instance : ESize Tryz.prog 270 0 0 := ⟨by kernel_rfl⟩
-- 271: abi.TFlag
instance : TSc Tryz.prog 271 := ⟨by kernel_rfl, by kernel_rfl⟩
instance : TInt Tryz.prog 271 .u8 := ⟨by kernel_rfl⟩
instance : TZero Tryz.prog 271 (.int .u8 0) := ⟨by kernel_rfl⟩
instance : ESize Tryz.prog 271 1 1 := ⟨by kernel_rfl⟩
-- 272: abi.Kind
instance : TSc Tryz.prog 272 := ⟨by kernel_rfl, by kernel_rfl⟩
instance : TInt Tryz.prog 272 .u8 := ⟨by kernel_rfl⟩
instance : TZero Tryz.prog 272 (.int .u8 0) := ⟨by kernel_rfl⟩
instance : ESize Tryz.prog 272 1 1 := ⟨by kernel_rfl⟩
-- 273: func(unsafe.Pointer, unsafe.Pointer) bool
instance : TSc Tryz.prog 273 := ⟨by kernel_rfl, by kernel_rfl⟩
instance : TZero Tryz.prog 273 (.nilFunc) := ⟨by kernel_rfl⟩
instance : ESize Tryz.prog 273 1 8 := ⟨by kernel_rfl⟩
-- 274: abi.NameOff
instance : TSc Tryz.prog 274 := ⟨by kernel_rfl, by kernel_rfl⟩
instance : TInt Tryz.prog 274 .i32 := ⟨by kernel_rfl⟩
instance : TZero Tryz.prog 274 (.int .i32 0) := ⟨by kernel_rfl⟩
instance : ESize Tryz.prog 274 1 4 := ⟨by kernel_rfl⟩
-- 275: abi.TypeOff
instance : TSc Tryz.prog 275 := ⟨by kernel_rfl, by kernel_rfl⟩
instance : TInt Tryz.prog 275 .i32 := ⟨by kernel_rfl⟩
instance : TZero Tryz.prog 275 (.int .i32 0) := ⟨by kernel_rfl⟩
instance : ESize Tryz.prog 275 1 4 := ⟨by kernel_rfl⟩
-- 276: struct { Size_ uintptr; PtrBytes uintptr; Hash uint32; TFlag abi.TFlag; Align_ uint8; FieldAlign_ ui
instance : TAgg Tryz.prog 276 11 := ⟨by kernel_rfl, by kernel_rfl⟩
instance : FOff Tryz.prog 276 0 0 := ⟨0, by kernel_rfl⟩
instance : FOff Tryz.prog 276 1 1 := ⟨0, by kernel_rfl⟩
instance : FOff Tryz.prog 276 2 2 := ⟨0, by kernel_rfl⟩
instance : FOff Tryz.prog 276 3 3 := ⟨0, by kernel_rfl⟩
instance : FOff Tryz.prog 276 4 4 := ⟨0, by kernel_rfl⟩
instance : FOff Tryz.prog 276 5 5 := ⟨0, by kernel_rfl⟩
instance : FOff Tryz.prog 276 6 6 := ⟨0, by kernel_rfl⟩
instance : FOff Tryz.prog 276 7 7 := ⟨0, by kernel_rfl⟩
instance : FOff Tryz.prog 276 8 8 := ⟨0, by kernel_rfl⟩
instance : FOff Tryz.prog 276 9 9 := ⟨0, by kernel_rfl⟩
instance : FOff Tryz.prog 276 10 10 := ⟨0, by kernel_rfl⟩
instance : TPlaces Tryz.prog 276 [(0, 1), (1, 1), (2, 1), (3, 1), (4, 1), (5, 1), (6, 1), (7, 1), (8, 1), (9, 1), (10, 1)] := ⟨Tryz.prog.fieldsOf 276, by kernel_rfl, by kernel_rfl, by kernel_rfl⟩
instance : TZero Tryz.prog 276 (.agg #[.int .u64 0, .int .u64 0, .int .u32 0, .int .u8 0, .int .u8 0, .int .u8 0, .int .u8 0, .nilFunc, .pointer none, .int .i32 0, .int .i32 0]) := ⟨by kernel_rfl⟩
instance : ESize Tryz.prog 276 11 48 := ⟨by kernel_rfl⟩
-- 277: abi.Type
instance : TAgg Tryz.prog 277 11 := ⟨by kernel_rfl, by kernel_rfl⟩
instance : FOff Tryz.prog 277 0 0 := ⟨0, by kernel_rfl⟩
instance : FOff Tryz.prog 277 1 1 := ⟨0, by kernel_rfl⟩
instance : FOff Tryz.prog 277 2 2 := ⟨0, by kernel_rfl⟩
instance : FOff Tryz.prog 277 3 3 := ⟨0, by kernel_rfl⟩
instance : FOff Tryz.prog 277 4 4 := ⟨0, by kernel_rfl⟩
instance : FOff Tryz.prog 277 5 5 := ⟨0, by kernel_rfl⟩
instance : FOff Tryz.prog 277 6 6 := ⟨0, by kernel_rfl⟩
instance : FOff Tryz.prog 277 7 7 := ⟨0, by kernel_rfl⟩
instance : FOff Tryz.prog 277 8 8 := ⟨0, by kernel_rfl⟩
instance : FOff Tryz.prog 277 9 9 := ⟨0, by kernel_rfl⟩
instance : FOff Tryz.prog 277 10 10 := ⟨0, by kernel_rfl⟩
instance : TPlaces Tryz.prog 277 [(0, 1), (1, 1), (2, 1), (3, 1), (4, 1), (5, 1), (6, 1), (7, 1), (8, 1), (9, 1), (10, 1)] := ⟨Tryz.prog.fieldsOf 277, by kernel_rfl, by kernel_rfl, by kernel_rfl⟩
instance : TZero Tryz.prog 277 (.agg #[.int .u64 0, .int .u64 0, .int .u32 0, .int .u8 0, .int .u8 0, .int .u8 0, .int .u8 0, .nilFunc, .pointer none, .int .i32 0, .int .i32 0]) := ⟨by kernel_rfl⟩
instance : ESize Tryz.prog 277 11 48 := ⟨by kernel_rfl⟩
instance : IsFn Tryz.prog 2 := ⟨Tryz.f2, Tryz.func2, rfl, rfl⟩
instance : IsFn Tryz.prog 3 := ⟨Tryz.f3, Tryz.func3, rfl, rfl⟩
instance : IsFn Tryz.prog 4 := ⟨Tryz.f4, Tryz.func4, rfl, rfl⟩
instance : IsFn Tryz.prog 5 := ⟨Tryz.f5, Tryz.func5, rfl, rfl⟩
instance : IsFn Tryz.prog 6 := ⟨Tryz.f6, Tryz.func6, rfl, rfl⟩
instance : IsFn Tryz.prog 7 := ⟨Tryz.f7, Tryz.func7, rfl, rfl⟩
instance : IsFn Tryz.prog 8 := ⟨Tryz.f8, Tryz.func8, rfl, rfl⟩
instance : IsFn Tryz.prog 9 := ⟨Tryz.f9, Tryz.func9, rfl, rfl⟩
instance : IsFn Tryz.prog 10 := ⟨Tryz.f10, Tryz.func10, rfl, rfl⟩
instance : IsFn Tryz.prog 11 := ⟨Tryz.f11, Tryz.func11, rfl, rfl⟩
instance : IsFn Tryz.prog 12 := ⟨Tryz.f12, Tryz.func12, rfl, rfl⟩
instance : IsFn Tryz.prog 13 := ⟨Tryz.f13, Tryz.func13, rfl, rfl⟩
instance : IsFn Tryz.prog 14 := ⟨Tryz.f14, Tryz.func14, rfl, rfl⟩
instance : IsFn Tryz.prog 15 := ⟨Tryz.f15, Tryz.func15, rfl, rfl⟩
instance : IsFn Tryz.prog 16 := ⟨Tryz.f16, Tryz.func16, rfl, rfl⟩
instance : IsFn Tryz.prog 17 := ⟨Tryz.f17, Tryz.func17, rfl, rfl⟩
instance : IsFn Tryz.prog 18 := ⟨Tryz.f18, Tryz.func18, rfl, rfl⟩
instance : IsFn Tryz.prog 19 := ⟨Tryz.f19, Tryz.func19, rfl, rfl⟩
instance : IsFn Tryz.prog 20 := ⟨Tryz.f20, Tryz.func20, rfl, rfl⟩
instance : IsFn Tryz.prog 21 := ⟨Tryz.f21, Tryz.func21, rfl, rfl⟩
instance : IsFn Tryz.prog 22 := ⟨Tryz.f22, Tryz.func22, rfl, rfl⟩
instance : IsFn Tryz.prog 23 := ⟨Tryz.f23, Tryz.func23, rfl, rfl⟩
instance : IsFn Tryz.prog 24 := ⟨Tryz.f24, Tryz.func24, rfl, rfl⟩
instance : IsFn Tryz.prog 25 := ⟨Tryz.f25, Tryz.func25, rfl, rfl⟩
instance : IsFn Tryz.prog 26 := ⟨Tryz.f26, Tryz.func26, rfl, rfl⟩
instance : IsFn Tryz.prog 27 := ⟨Tryz.f27, Tryz.func27, rfl, rfl⟩
instance : IsFn Tryz.prog 28 := ⟨Tryz.f28, Tryz.func28, rfl, rfl⟩
instance : IsFn Tryz.prog 29 := ⟨Tryz.f29, Tryz.func29, rfl, rfl⟩
instance : IsFn Tryz.prog 30 := ⟨Tryz.f30, Tryz.func30, rfl, rfl⟩
instance : IsFn Tryz.prog 31 := ⟨Tryz.f31, Tryz.func31, rfl, rfl⟩
instance : IsFn Tryz.prog 32 := ⟨Tryz.f32, Tryz.func32, rfl, rfl⟩
instance : IsFn Tryz.prog 33 := ⟨Tryz.f33, Tryz.func33, rfl, rfl⟩
instance : IsFn Tryz.prog 34 := ⟨Tryz.f34, Tryz.func34, rfl, rfl⟩
instance : IsFn Tryz.prog 35 := ⟨Tryz.f35, Tryz.func35, rfl, rfl⟩
instance : IsFn Tryz.prog 36 := ⟨Tryz.f36, Tryz.func36, rfl, rfl⟩
instance : IsFn Tryz.prog 37 := ⟨Tryz.f37, Tryz.func37, rfl, rfl⟩
instance : IsFn Tryz.prog 38 := ⟨Tryz.f38, Tryz.func38, rfl, rfl⟩
instance : IsFn Tryz.prog 39 := ⟨Tryz.f39, Tryz.func39, rfl, rfl⟩
instance : IsFn Tryz.prog 40 := ⟨Tryz.f40, Tryz.func40, rfl, rfl⟩
instance : IsFn Tryz.prog 41 := ⟨Tryz.f41, Tryz.func41, rfl, rfl⟩
instance : IsFn Tryz.prog 42 := ⟨Tryz.f42, Tryz.func42, rfl, rfl⟩
instance : IsFn Tryz.prog 43 := ⟨Tryz.f43, Tryz.func43, rfl, rfl⟩
instance : IsFn Tryz.prog 44 := ⟨Tryz.f44, Tryz.func44, rfl, rfl⟩
instance : IsFn Tryz.prog 45 := ⟨Tryz.f45, Tryz.func45, rfl, rfl⟩
instance : IsFn Tryz.prog 46 := ⟨Tryz.f46, Tryz.func46, rfl, rfl⟩
instance : IsFn Tryz.prog 47 := ⟨Tryz.f47, Tryz.func47, rfl, rfl⟩
instance : IsFn Tryz.prog 48 := ⟨Tryz.f48, Tryz.func48, rfl, rfl⟩
instance : IsFn Tryz.prog 49 := ⟨Tryz.f49, Tryz.func49, rfl, rfl⟩
instance : IsFn Tryz.prog 50 := ⟨Tryz.f50, Tryz.func50, rfl, rfl⟩
instance : IsFn Tryz.prog 51 := ⟨Tryz.f51, Tryz.func51, rfl, rfl⟩
instance : IsFn Tryz.prog 52 := ⟨Tryz.f52, Tryz.func52, rfl, rfl⟩
instance : IsFn Tryz.prog 53 := ⟨Tryz.f53, Tryz.func53, rfl, rfl⟩
instance : IsFn Tryz.prog 54 := ⟨Tryz.f54, Tryz.func54, rfl, rfl⟩
instance : IsFn Tryz.prog 55 := ⟨Tryz.f55, Tryz.func55, rfl, rfl⟩
instance : IsFn Tryz.prog 56 := ⟨Tryz.f56, Tryz.func56, rfl, rfl⟩
instance : IsFn Tryz.prog 57 := ⟨Tryz.f57, Tryz.func57, rfl, rfl⟩
instance : IsFn Tryz.prog 58 := ⟨Tryz.f58, Tryz.func58, rfl, rfl⟩
instance : IsFn Tryz.prog 59 := ⟨Tryz.f59, Tryz.func59, rfl, rfl⟩
instance : IsFn Tryz.prog 60 := ⟨Tryz.f60, Tryz.func60, rfl, rfl⟩
instance : IsFn Tryz.prog 61 := ⟨Tryz.f61, Tryz.func61, rfl, rfl⟩
instance : IsFn Tryz.prog 62 := ⟨Tryz.f62, Tryz.func62, rfl, rfl⟩
instance : IsFn Tryz.prog 63 := ⟨Tryz.f63, Tryz.func63, rfl, rfl⟩
instance : IsFn Tryz.prog 64 := ⟨Tryz.f64, Tryz.func64, rfl, rfl⟩
instance : IsFn Tryz.prog 65 := ⟨Tryz.f65, Tryz.func65, rfl, rfl⟩
instance : IsFn Tryz.prog 66 := ⟨Tryz.f66, Tryz.func66, rfl, rfl⟩
instance : IsFn Tryz.prog 67 := ⟨Tryz.f67, Tryz.func67, rfl, rfl⟩
instance : IsFn Tryz.prog 68 := ⟨Tryz.f68, Tryz.func68, rfl, rfl⟩
instance : IsFn Tryz.prog 69 := ⟨Tryz.f69, Tryz.func69, rfl, rfl⟩
instance : IsFn Tryz.prog 70 := ⟨Tryz.f70, Tryz.func70, rfl, rfl⟩
instance : IsFn Tryz.prog 71 := ⟨Tryz.f71, Tryz.func71, rfl, rfl⟩
instance : IsFn Tryz.prog 72 := ⟨Tryz.f72, Tryz.func72, rfl, rfl⟩
instance : IsFn Tryz.prog 73 := ⟨Tryz.f73, Tryz.func73, rfl, rfl⟩
instance : IsFn Tryz.prog 74 := ⟨Tryz.f74, Tryz.func74, rfl, rfl⟩
instance : IsFn Tryz.prog 75 := ⟨Tryz.f75, Tryz.func75, rfl, rfl⟩
instance : IsFn Tryz.prog 76 := ⟨Tryz.f76, Tryz.func76, rfl, rfl⟩
instance : IsFn Tryz.prog 77 := ⟨Tryz.f77, Tryz.func77, rfl, rfl⟩
instance : IsFn Tryz.prog 78 := ⟨Tryz.f78, Tryz.func78, rfl, rfl⟩
instance : IsFn Tryz.prog 79 := ⟨Tryz.f79, Tryz.func79, rfl, rfl⟩
instance : IsFn Tryz.prog 80 := ⟨Tryz.f80, Tryz.func80, rfl, rfl⟩
instance : IsFn Tryz.prog 81 := ⟨Tryz.f81, Tryz.func81, rfl, rfl⟩
instance : IsFn Tryz.prog 82 := ⟨Tryz.f82, Tryz.func82, rfl, rfl⟩
instance : IsFn Tryz.prog 83 := ⟨Tryz.f83, Tryz.func83, rfl, rfl⟩
instance : IsFn Tryz.prog 84 := ⟨Tryz.f84, Tryz.func84, rfl, rfl⟩
instance : IsFn Tryz.prog 85 := ⟨Tryz.f85, Tryz.func85, rfl, rfl⟩
instance : IsFn Tryz.prog 86 := ⟨Tryz.f86, Tryz.func86, rfl, rfl⟩
instance : IsFn Tryz.prog 87 := ⟨Tryz.f87, Tryz.func87, rfl, rfl⟩
instance : IsFn Tryz.prog 88 := ⟨Tryz.f88, Tryz.func88, rfl, rfl⟩
instance : IsFn Tryz.prog 89 := ⟨Tryz.f89, Tryz.func89, rfl, rfl⟩
instance : IsFn Tryz.prog 90 := ⟨Tryz.f90, Tryz.func90, rfl, rfl⟩
instance : IsFn Tryz.prog 91 := ⟨Tryz.f91, Tryz.func91, rfl, rfl⟩
instance : IsFn Tryz.prog 92 := ⟨Tryz.f92, Tryz.func92, rfl, rfl⟩
instance : IsFn Tryz.prog 93 := ⟨Tryz.f93, Tryz.func93, rfl, rfl⟩
instance : IsFn Tryz.prog 94 := ⟨Tryz.f94, Tryz.func94, rfl, rfl⟩
instance : IsFn Tryz.prog 95 := ⟨Tryz.f95, Tryz.func95, rfl, rfl⟩
instance : IsFn Tryz.prog 96 := ⟨Tryz.f96, Tryz.func96, rfl, rfl⟩
instance : IsFn Tryz.prog 97 := ⟨Tryz.f97, Tryz.func97, rfl, rfl⟩
instance : IsFn Tryz.prog 98 := ⟨Tryz.f98, Tryz.func98, rfl, rfl⟩
instance : IsFn Tryz.prog 99 := ⟨Tryz.f99, Tryz.func99, rfl, rfl⟩
instance : IsFn Tryz.prog 100 := ⟨Tryz.f100, Tryz.func100, rfl, rfl⟩
instance : IsFn Tryz.prog 101 := ⟨Tryz.f101, Tryz.func101, rfl, rfl⟩
instance : IsFn Tryz.prog 102 := ⟨Tryz.f102, Tryz.func102, rfl, rfl⟩
instance : IsFn Tryz.prog 103 := ⟨Tryz.f103, Tryz.func103, rfl, rfl⟩
instance : IsFn Tryz.prog 104 := ⟨Tryz.f104, Tryz.func104, rfl, rfl⟩
instance : IsFn Tryz.prog 105 := ⟨Tryz.f105, Tryz.func105, rfl, rfl⟩
instance : IsFn Tryz.prog 106 := ⟨Tryz.f106, Tryz.func106, rfl, rfl⟩
instance : IsFn Tryz.prog 107 := ⟨Tryz.f107, Tryz.func107, rfl, rfl⟩
instance : IsFn Tryz.prog 108 := ⟨Tryz.f108, Tryz.func108, rfl, rfl⟩
instance : IsFn Tryz.prog 109 := ⟨Tryz.f109, Tryz.func109, rfl, rfl⟩
instance : IsFn Tryz.prog 110 := ⟨Tryz.f110, Tryz.func110, rfl, rfl⟩
instance : IsFn Tryz.prog 111 := ⟨Tryz.f111, Tryz.func111, rfl, rfl⟩
instance : IsFn Tryz.prog 112 := ⟨Tryz.f112, Tryz.func112, rfl, rfl⟩
instance : IsFn Tryz.prog 113 := ⟨Tryz.f113, Tryz.func113, rfl, rfl⟩
instance : IsFn Tryz.prog 114 := ⟨Tryz.f114, Tryz.func114, rfl, rfl⟩
instance : IsFn Tryz.prog 115 := ⟨Tryz.f115, Tryz.func115, rfl, rfl⟩
instance : IsFn Tryz.prog 116 := ⟨Tryz.f116, Tryz.func116, rfl, rfl⟩
instance : IsFn Tryz.prog 117 := ⟨Tryz.f117, Tryz.func117, rfl, rfl⟩
instance : IsFn Tryz.prog 118 := ⟨Tryz.f118, Tryz.func118, rfl, rfl⟩
instance : IsFn Tryz.prog 119 := ⟨Tryz.f119, Tryz.func119, rfl, rfl⟩
instance : IsFn Tryz.prog 120 := ⟨Tryz.f120, Tryz.func120, rfl, rfl⟩
instance : IsFn Tryz.prog 121 := ⟨Tryz.f121, Tryz.func121, rfl, rfl⟩
instance : IsFn Tryz.prog 122 := ⟨Tryz.f122, Tryz.func122, rfl, rfl⟩
instance : IsFn Tryz.prog 123 := ⟨Tryz.f123, Tryz.func123, rfl, rfl⟩
instance : IsFn Tryz.prog 124 := ⟨Tryz.f124, Tryz.func124, rfl, rfl⟩
instance : IsFn Tryz.prog 125 := ⟨Tryz.f125, Tryz.func125, rfl, rfl⟩
instance : IsFn Tryz.prog 126 := ⟨Tryz.f126, Tryz.func126, rfl, rfl⟩
instance : IsFn Tryz.prog 127 := ⟨Tryz.f127, Tryz.func127, rfl, rfl⟩
instance : IsFn Tryz.prog 128 := ⟨Tryz.f128, Tryz.func128, rfl, rfl⟩
instance : IsFn Tryz.prog 129 := ⟨Tryz.f129, Tryz.func129, rfl, rfl⟩
instance : IsFn Tryz.prog 130 := ⟨Tryz.f130, Tryz.func130, rfl, rfl⟩
instance : IsFn Tryz.prog 131 := ⟨Tryz.f131, Tryz.func131, rfl, rfl⟩
instance : IsFn Tryz.prog 132 := ⟨Tryz.f132, Tryz.func132, rfl, rfl⟩
instance : IsFn Tryz.prog 133 := ⟨Tryz.f133, Tryz.func133, rfl, rfl⟩
instance : IsFn Tryz.prog 134 := ⟨Tryz.f134, Tryz.func134, rfl, rfl⟩
instance : IsFn Tryz.prog 135 := ⟨Tryz.f135, Tryz.func135, rfl, rfl⟩
instance : IsFn Tryz.prog 136 := ⟨Tryz.f136, Tryz.func136, rfl, rfl⟩
instance : IsFn Tryz.prog 137 := ⟨Tryz.f137, Tryz.func137, rfl, rfl⟩
instance : IsFn Tryz.prog 138 := ⟨Tryz.f138, Tryz.func138, rfl, rfl⟩
instance : IsFn Tryz.prog 139 := ⟨Tryz.f139, Tryz.func139, rfl, rfl⟩
instance : IsFn Tryz.prog 140 := ⟨Tryz.f140, Tryz.func140, rfl, rfl⟩
instance : IsFn Tryz.prog 141 := ⟨Tryz.f141, Tryz.func141, rfl, rfl⟩
instance : IsFn Tryz.prog 142 := ⟨Tryz.f142, Tryz.func142, rfl, rfl⟩
instance : IsFn Tryz.prog 143 := ⟨Tryz.f143, Tryz.func143, rfl, rfl⟩
instance : IsFn Tryz.prog 144 := ⟨Tryz.f144, Tryz.func144, rfl, rfl⟩
instance : IsFn Tryz.prog 145 := ⟨Tryz.f145, Tryz.func145, rfl, rfl⟩
instance : IsFn Tryz.prog 146 := ⟨Tryz.f146, Tryz.func146, rfl, rfl⟩
instance : IsFn Tryz.prog 147 := ⟨Tryz.f147, Tryz.func147, rfl, rfl⟩
instance : IsFn Tryz.prog 148 := ⟨Tryz.f148, Tryz.func148, rfl, rfl⟩
instance : IsFn Tryz.prog 149 := ⟨Tryz.f149, Tryz.func149, rfl, rfl⟩
instance : IsFn Tryz.prog 150 := ⟨Tryz.f150, Tryz.func150, rfl, rfl⟩
instance : IsFn Tryz.prog 151 := ⟨Tryz.f151, Tryz.func151, rfl, rfl⟩
instance : IsFn Tryz.prog 152 := ⟨Tryz.f152, Tryz.func152, rfl, rfl⟩
instance : IsFn Tryz.prog 153 := ⟨Tryz.f153, Tryz.func153, rfl, rfl⟩
instance : IsFn Tryz.prog 154 := ⟨Tryz.f154, Tryz.func154, rfl, rfl⟩
instance : IsFn Tryz.prog 155 := ⟨Tryz.f155, Tryz.func155, rfl, rfl⟩
instance : IsFn Tryz.prog 156 := ⟨Tryz.f156, Tryz.func156, rfl, rfl⟩
instance : IsFn Tryz.prog 157 := ⟨Tryz.f157, Tryz.func157, rfl, rfl⟩
instance : IsFn Tryz.prog 158 := ⟨Tryz.f158, Tryz.func158, rfl, rfl⟩
instance : IsFn Tryz.prog 159 := ⟨Tryz.f159, Tryz.func159, rfl, rfl⟩
instance : IsFn Tryz.prog 160 := ⟨Tryz.f160, Tryz.func160, rfl, rfl⟩
instance : IsFn Tryz.prog 161 := ⟨Tryz.f161, Tryz.func161, rfl, rfl⟩
instance : IsFn Tryz.prog 162 := ⟨Tryz.f162, Tryz.func162, rfl, rfl⟩
instance : IsFn Tryz.prog 163 := ⟨Tryz.f163, Tryz.func163, rfl, rfl⟩
instance : IsFn Tryz.prog 164 := ⟨Tryz.f164, Tryz.func164, rfl, rfl⟩
instance : IsFn Tryz.prog 165 := ⟨Tryz.f165, Tryz.func165, rfl, rfl⟩
instance : IsFn Tryz.prog 166 := ⟨Tryz.f166, Tryz.func166, rfl, rfl⟩
instance : IsFn Tryz.prog 167 := ⟨Tryz.f167, Tryz.func167, rfl, rfl⟩
instance : IsFn Tryz.prog 168 := ⟨Tryz.f168, Tryz.func168, rfl, rfl⟩
instance : IsFn Tryz.prog 169 := ⟨Tryz.f169, Tryz.func169, rfl, rfl⟩
instance : IsFn Tryz.prog 170 := ⟨Tryz.f170, Tryz.func170, rfl, rfl⟩
instance : IsFn Tryz.prog 171 := ⟨Tryz.f171, Tryz.func171, rfl, rfl⟩
instance : IsFn Tryz.prog 172 := ⟨Tryz.f172, Tryz.func172, rfl, rfl⟩
instance : IsFn Tryz.prog 173 := ⟨Tryz.f173, Tryz.func173, rfl, rfl⟩
instance : IsFn Tryz.prog 174 := ⟨Tryz.f174, Tryz.func174, rfl, rfl⟩
instance : IsFn Tryz.prog 175 := ⟨Tryz.f175, Tryz.func175, rfl, rfl⟩
instance : IsFn Tryz.prog 176 := ⟨Tryz.f176, Tryz.func176, rfl, rfl⟩
instance : IsFn Tryz.prog 177 := ⟨Tryz.f177, Tryz.func177, rfl, rfl⟩
instance : IsFn Tryz.prog 179 := ⟨Tryz.f179, Tryz.func179, rfl, rfl⟩
instance : IsFn Tryz.prog 180 := ⟨Tryz.f180, Tryz.func180, rfl, rfl⟩
instance : IsFn Tryz.prog 181 := ⟨Tryz.f181, Tryz.func181, rfl, rfl⟩
instance : IsFn Tryz.prog 182 := ⟨Tryz.f182, Tryz.func182, rfl, rfl⟩
instance : IsFn Tryz.prog 183 := ⟨Tryz.f183, Tryz.func183, rfl, rfl⟩
instance : IsFn Tryz.prog 184 := ⟨Tryz.f184, Tryz.func184, rfl, rfl⟩
instance : IsFn Tryz.prog 185 := ⟨Tryz.f185, Tryz.func185, rfl, rfl⟩
instance : IsFn Tryz.prog 186 := ⟨Tryz.f186, Tryz.func186, rfl, rfl⟩
instance : IsFn Tryz.prog 187 := ⟨Tryz.f187, Tryz.func187, rfl, rfl⟩
instance : IsFn Tryz.prog 188 := ⟨Tryz.f188, Tryz.func188, rfl, rfl⟩
instance : IsFn Tryz.prog 189 := ⟨Tryz.f189, Tryz.func189, rfl, rfl⟩
instance : IsFn Tryz.prog 190 := ⟨Tryz.f190, Tryz.func190, rfl, rfl⟩
instance : IsFn Tryz.prog 191 := ⟨Tryz.f191, Tryz.func191, rfl, rfl⟩
instance : IsFn Tryz.prog 192 := ⟨Tryz.f192, Tryz.func192, rfl, rfl⟩
instance : IsFn Tryz.prog 193 := ⟨Tryz.f193, Tryz.func193, rfl, rfl⟩
instance : IsFn Tryz.prog 194 := ⟨Tryz.f194, Tryz.func194, rfl, rfl⟩
instance : IsFn Tryz.prog 195 := ⟨Tryz.f195, Tryz.func195, rfl, rfl⟩
instance : IsFn Tryz.prog 196 := ⟨Tryz.f196, Tryz.func196, rfl, rfl⟩
instance : IsFn Tryz.prog 197 := ⟨Tryz.f197, Tryz.func197, rfl, rfl⟩
instance : IsFn Tryz.prog 198 := ⟨Tryz.f198, Tryz.func198, rfl, rfl⟩
instance : IsFn Tryz.prog 199 := ⟨Tryz.f199, Tryz.func199, rfl, rfl⟩
instance : IsFn Tryz.prog 200 := ⟨Tryz.f200, Tryz.func200, rfl, rfl⟩
instance : IsFn Tryz.prog 201 := ⟨Tryz.f201, Tryz.func201, rfl, rfl⟩
instance : IsFn Tryz.prog 202 := ⟨Tryz.f202, Tryz.func202, rfl, rfl⟩
instance : IsFn Tryz.prog 203 := ⟨Tryz.f203, Tryz.func203, rfl, rfl⟩
instance : IsFn Tryz.prog 204 := ⟨Tryz.f204, Tryz.func204, rfl, rfl⟩
instance : IsFn Tryz.prog 205 := ⟨Tryz.f205, Tryz.func205, rfl, rfl⟩
instance : IsFn Tryz.prog 206 := ⟨Tryz.f206, Tryz.func206, rfl, rfl⟩
instance : IsFn Tryz.prog 207 := ⟨Tryz.f207, Tryz.func207, rfl, rfl⟩
instance : IsFn Tryz.prog 208 := ⟨Tryz.f208, Tryz.func208, rfl, rfl⟩
instance : IsFn Tryz.prog 209 := ⟨Tryz.f209, Tryz.func209, rfl, rfl⟩
instance : IsFn Tryz.prog 210 := ⟨Tryz.f210, Tryz.func210, rfl, rfl⟩
instance : IsFn Tryz.prog 212 := ⟨Tryz.f212, Tryz.func212, rfl, rfl⟩
instance : IsFn Tryz.prog 213 := ⟨Tryz.f213, Tryz.func213, rfl, rfl⟩
instance : IsFn Tryz.prog 214 := ⟨Tryz.f214, Tryz.func214, rfl, rfl⟩
instance : IsFn Tryz.prog 215 := ⟨Tryz.f215, Tryz.func215, rfl, rfl⟩
instance : IsFn Tryz.prog 216 := ⟨Tryz.f216, Tryz.func216, rfl, rfl⟩
instance : IsFn Tryz.prog 217 := ⟨Tryz.f217, Tryz.func217, rfl, rfl⟩
instance : IsFn Tryz.prog 249 := ⟨Tryz.f249, Tryz.func249, rfl, rfl⟩
end Go.Proofs.YtaeefjcbmkiiaaaGreatDoor
/- Heaps, assertions and their separating conjunction over the machine's worlds: what a walk says of memory, and how it is kept. -/
namespace Go.Proofs.YtaeefjcbmkiiaaaGreatDoor.Sl
open Go Go.RowKit

/-- A part of the heap: some blocks with what they hold. -/
abbrev Hp := Nat → Option Obj
/-- What is said of a part of the heap; the first: what was there when the law began, and stays (it may be read by all). -/
abbrev Assn := Hp → Hp → Prop

def Hp.disj (h1 h2 : Hp) : Prop := ∀ b, h1 b = none ∨ h2 b = none
def Hp.le (h h' : Hp) : Prop := ∀ b o, h b = some o → h' b = some o
def Hp.union (h1 h2 : Hp) : Hp := fun b => match h1 b with | some o => some o | none => h2 b
def Hp.empty : Hp := fun _ => none
def Hp.one (b : Nat) (o : Obj) : Hp := fun c => if c = b then some o else none

theorem Hp.le_refl (h : Hp) : Hp.le h h := fun _ _ e => e
theorem Hp.le_trans {a b c : Hp} (h : Hp.le a b) (k : Hp.le b c) : Hp.le a c := fun x o e => k x o (h x o e)
theorem Hp.disj_symm {a b : Hp} (h : Hp.disj a b) : Hp.disj b a := fun x => (h x).symm
theorem Hp.disj_le {a b a' b' : Hp} (h : Hp.disj a b) (ha : Hp.le a' a) (hb : Hp.le b' b) : Hp.disj a' b' := by
  intro x
  cases h1 : a' x with
  | none => exact .inl rfl
  | some o =>
    cases h2 : b' x with
    | none => exact .inr rfl
    | some o' =>
      rcases h x with e | e
      · rw [ha _ _ h1] at e; cases e
      · rw [hb _ _ h2] at e; cases e
theorem Hp.le_union_left (a b : Hp) : Hp.le a (Hp.union a b) := fun x o e => by simp [Hp.union, e]
theorem Hp.le_union_right {a b : Hp} (h : Hp.disj a b) : Hp.le b (Hp.union a b) := fun x o e => by
  rcases h x with e' | e'
  · simp [Hp.union, e', e]
  · rw [e'] at e; cases e
theorem Hp.union_le {a b c : Hp} (ha : Hp.le a c) (hb : Hp.le b c) : Hp.le (Hp.union a b) c := fun x o e => by
  unfold Hp.union at e
  cases h1 : a x with
  | none => rw [h1] at e; exact hb _ _ e
  | some o' => rw [h1] at e; cases e; exact ha _ _ h1
theorem Hp.disj_union {a b c : Hp} (h1 : Hp.disj a c) (h2 : Hp.disj b c) : Hp.disj (Hp.union a b) c := fun x => by
  rcases h1 x with e | e
  · rcases h2 x with e' | e'
    · left; simp [Hp.union, e, e']
    · exact .inr e'
  · exact .inr e

/-- All of a list hold, of parts that are apart. -/
def sat : List Assn → Assn
  | [], _, _ => True
  | A :: Γ, r, h => ∃ h1 h2, Hp.disj h1 h2 ∧ Hp.le h1 h ∧ Hp.le h2 h ∧ A r h1 ∧ sat Γ r h2

theorem sat_mono {Γ : List Assn} {r h h' : Hp} (hl : Hp.le h h') (hs : sat Γ r h) : sat Γ r h' := by
  cases Γ with
  | nil => trivial
  | cons A Γ =>
    obtain ⟨h1, h2, d, l1, l2, hA, hG⟩ := hs
    exact ⟨h1, h2, d, Hp.le_trans l1 hl, Hp.le_trans l2 hl, hA, hG⟩
theorem sat_swap {A B : Assn} {Γ : List Assn} {r h : Hp} (hs : sat (A :: B :: Γ) r h) : sat (B :: A :: Γ) r h := by
  obtain ⟨h1, h2, d, l1, l2, hA, h3, h4, d', l3, l4, hB, hG⟩ := hs
  have d14 : Hp.disj h1 h4 := Hp.disj_le d (Hp.le_refl _) l4
  refine ⟨h3, Hp.union h1 h4, ?_, Hp.le_trans l3 l2, Hp.union_le l1 (Hp.le_trans l4 l2), hB, h1, h4, d14, Hp.le_union_left _ _, Hp.le_union_right d14, hA, hG⟩
  exact Hp.disj_symm (Hp.disj_union (Hp.disj_le d (Hp.le_refl _) l3) (Hp.disj_symm d'))
theorem sat_tail {A : Assn} {Γ : List Assn} {r h : Hp} (hs : sat (A :: Γ) r h) : sat Γ r h := by
  obtain ⟨h1, h2, d, l1, l2, hA, hG⟩ := hs
  exact sat_mono l2 hG
theorem sat_head {A : Assn} {Γ : List Assn} {r h : Hp} (hs : sat (A :: Γ) r h) : ∃ h1, Hp.le h1 h ∧ A r h1 := by
  obtain ⟨h1, h2, d, l1, l2, hA, hG⟩ := hs
  exact ⟨h1, l1, hA⟩
theorem sat_congr_tail {A : Assn} {Γ Γ' : List Assn} {r h : Hp} (f : ∀ h, sat Γ r h → sat Γ' r h) (hs : sat (A :: Γ) r h) : sat (A :: Γ') r h := by
  obtain ⟨h1, h2, d, l1, l2, hA, hG⟩ := hs
  exact ⟨h1, h2, d, l1, l2, hA, f _ hG⟩
theorem sat_perm {Γ Γ' : List Assn} (p : Γ.Perm Γ') : ∀ {r h : Hp}, sat Γ r h → sat Γ' r h := by
  induction p with
  | nil => exact fun h => h
  | cons A _ ih => exact fun hs => sat_congr_tail (fun _ => ih) hs
  | swap A B Γ => exact fun hs => sat_swap hs
  | trans _ _ ih1 ih2 => exact fun hs => ih2 (ih1 hs)
/-- Two lists side by side, as one assertion behind the first. -/
theorem sat_append_iff {Γ Δ : List Assn} {r h : Hp} : sat (Γ ++ Δ) r h ↔ sat (Γ ++ [sat Δ]) r h := by
  induction Γ generalizing h with
  | nil =>
    constructor
    · intro hs
      exact ⟨h, Hp.empty, fun _ => .inr rfl, Hp.le_refl _, fun _ _ e => (by cases e), hs, trivial⟩
    · rintro ⟨h1, h2, d, l1, l2, hA, -⟩
      exact sat_mono l1 hA
  | cons A Γ ih =>
    constructor <;> exact fun hs => sat_congr_tail (fun _ => by first | exact ih.1 | exact ih.2) hs

/-- One of a list, and the others. -/
inductive Sel : List Assn → Assn → List Assn → Prop
  | here {A : Assn} {Γ : List Assn} : Sel (A :: Γ) A Γ
  | there {A B : Assn} {Γ Γ' : List Assn} : Sel Γ A Γ' → Sel (B :: Γ) A (B :: Γ')
theorem Sel.perm {Γ : List Assn} {A : Assn} {Γ' : List Assn} (h : Sel Γ A Γ') : Γ.Perm (A :: Γ') := by
  induction h with
  | here => exact .refl _
  | there _ ih => exact (List.Perm.cons _ ih).trans (.swap _ _ _)
/-- Some of a list, and the others. -/
inductive Split : List Assn → List Assn → List Assn → Prop
  | nil {Γ : List Assn} : Split Γ [] Γ
  | cons {Γ Γ1 R : List Assn} {A : Assn} {As : List Assn} : Sel Γ A Γ1 → Split Γ1 As R → Split Γ (A :: As) R
theorem Split.perm {Γ As R : List Assn} (h : Split Γ As R) : Γ.Perm (As ++ R) := by
  induction h with
  | nil => exact .refl _
  | cons s _ ih => exact s.perm.trans (.cons _ ih)

/-- A block and what it holds. -/
def blk (b : Nat) (o : Obj) : Assn := fun _ h => h b = some o
/-- A block that was there when the law began. -/
def rbk (b : Nat) (o : Obj) : Assn := fun r _ => r b = some o
def pur (p : Prop) : Assn := fun _ _ => p
def exA {α : Type} (A : α → Assn) : Assn := fun r h => ∃ x, A x r h
/-- Several, as one. -/
def all (Γ : List Assn) : Assn := sat Γ

/-! ### worlds -/
/-- What was there. -/
def baseHp (B : World) : Hp := fun b => if b < B.heap.size then B.heap[b]? else none
/-- What a walk says of the world: nothing that was there when the law began has turned; of what is new, all of the list hold, and the frame. -/
def Sat (B : World) (F : Assn) (Γ : List Assn) (w : World) : Prop :=
  Below B.heap.size B w ∧ ∃ h : Hp, (∀ b o, h b = some o → B.heap.size ≤ b ∧ w.heap[b]? = some o) ∧ sat (F :: Γ) (baseHp B) h

variable {B : World} {F : Assn} {Γ Γ' : List Assn} {w : World}

theorem Sat.perm (p : Γ.Perm Γ') (h : Sat B F Γ w) : Sat B F Γ' w :=
  let ⟨hb, m, hm, hs⟩ := h; ⟨hb, m, hm, sat_congr_tail (fun _ => sat_perm p) hs⟩
theorem Sat.imp (f : ∀ h, sat Γ (baseHp B) h → sat Γ' (baseHp B) h) (h : Sat B F Γ w) : Sat B F Γ' w :=
  let ⟨hb, m, hm, hs⟩ := h; ⟨hb, m, hm, sat_congr_tail f hs⟩
theorem Sat.tail {A : Assn} (h : Sat B F (A :: Γ) w) : Sat B F Γ w := h.imp fun _ => sat_tail
/-- One of the list, looked at. -/
theorem Sat.peek {A : Assn} (h : Sat B F Γ w) (s : Sel Γ A Γ') : ∃ h1 : Hp, (∀ b o, h1 b = some o → B.heap.size ≤ b ∧ w.heap[b]? = some o) ∧ A (baseHp B) h1 := by
  obtain ⟨hb, m, hm, hs⟩ := h.perm s.perm
  obtain ⟨h1, l1, hA⟩ := sat_head (sat_tail hs)
  exact ⟨h1, fun b o e => hm b o (l1 b o e), hA⟩
theorem Sat.blk {b : Nat} {o : Obj} (h : Sat B F Γ w) (s : Sel Γ (Sl.blk b o) Γ') : B.heap.size ≤ b ∧ w.heap[b]? = some o := by
  obtain ⟨h1, l1, hA⟩ := h.peek s
  exact l1 b o hA
theorem Sat.base (h : Sat B F Γ w) : Below B.heap.size B w := h.1
/-- The world's count of draws, and nothing that the heap holds. -/
theorem Sat.of_heap {w' : World} (h : Sat B F Γ w) (h1 : w'.heap = w.heap) (h2 : w'.os = w.os) (h3 : w'.tape = w.tape) (h4 : w'.output = w.output) : Sat B F Γ w' := by
  obtain ⟨hb, m, hm, hs⟩ := h
  refine ⟨⟨h2.trans hb.os, h3.trans hb.tape, h4.trans hb.output, by rw [h1]; exact hb.size, fun k hk => by rw [h1]; exact hb.block k hk⟩, m, fun b o e => by rw [h1]; exact hm b o e, hs⟩
theorem Sat.drew (h : Sat B F Γ w) : Sat B F Γ { w with drawn := w.drawn + 1 } := h.of_heap rfl rfl rfl rfl
/-- A new block. -/
theorem Sat.alloc (h : Sat B F Γ w) (o : Obj) : Sat B F (Sl.blk w.heap.size o :: Γ) (w.alloc o) := by
  obtain ⟨hb, m, hm, h1, h2, d, l1, l2, hF, hs⟩ := h
  have hnone : ∀ h' : Hp, Hp.le h' m → h' w.heap.size = none := fun h' l => by
    cases e : h' w.heap.size with
    | none => rfl
    | some x =>
      have := (hm _ _ (l _ _ e)).2
      rw [Array.getElem?_eq_none (Nat.le_refl _)] at this; cases this
  have dm : Hp.disj (Hp.one w.heap.size o) m := fun b => by
    by_cases e : b = w.heap.size
    · right; subst e; exact hnone m (Hp.le_refl _)
    · left; simp [Hp.one, e]
  refine ⟨hb.alloc hb.size o, Hp.union (Hp.one w.heap.size o) m, ?_, h1, Hp.union (Hp.one w.heap.size o) h2, ?_, Hp.le_trans l1 (Hp.le_union_right dm), Hp.union_le (Hp.le_union_left _ _) (Hp.le_trans l2 (Hp.le_union_right dm)), hF, Hp.one w.heap.size o, h2, Hp.disj_le dm (Hp.le_refl _) l2, Hp.le_union_left _ _, Hp.le_union_right (Hp.disj_le dm (Hp.le_refl _) l2), by simp [Sl.blk, Hp.one], hs⟩
  · intro b o' e
    unfold Hp.union at e
    by_cases hbn : b = w.heap.size
    · subst hbn
      simp [Hp.one] at e
      subst e
      exact ⟨hb.size, by show (w.heap.push o)[w.heap.size]? = some o; simp⟩
    · simp [Hp.one, hbn] at e
      obtain ⟨h5, h6⟩ := hm b o' e
      exact ⟨h5, by show (w.heap.push o)[b]? = some o'; simp only [Array.getElem?_push, hbn, if_false]; exact h6⟩
  · exact Hp.disj_symm (Hp.disj_union (Hp.disj_le dm (Hp.le_refl _) l1) (Hp.disj_symm d))
/-- A block of the list, written. -/
theorem Sat.write {b : Nat} {o o' : Obj} {w' : World} (h : Sat B F (Sl.blk b o :: Γ) w) (hw : w'.heap = w.heap.setIfInBounds b o') (h2 : w'.os = w.os) (h3 : w'.tape = w.tape) (h4 : w'.output = w.output) :
    Sat B F (Sl.blk b o' :: Γ) w' := by
  obtain ⟨hb, m, hm, h1, h2', d, l1, l2, hF, h3', h4', d', l3, l4, hbk, hs⟩ := h
  have hbb : m b = some o := l2 _ _ (l3 _ _ hbk)
  obtain ⟨hle, hget⟩ := hm b o hbb
  have hlt : b < w.heap.size := by
    rcases Nat.lt_or_ge b w.heap.size with h | h
    · exact h
    · rw [Array.getElem?_eq_none h] at hget; cases hget
  have n1 : h1 b = none := by
    rcases d b with e | e
    · exact e
    · rw [l3 _ _ hbk] at e; cases e
  have n4 : h4' b = none := by
    rcases d' b with e | e
    · rw [show h3' b = some o from hbk] at e; cases e
    · exact e
  have dj : ∀ h' : Hp, h' b = none → Hp.disj (Hp.one b o') h' := fun h' e x => by
    by_cases ex : x = b
    · right; subst ex; exact e
    · left; simp [Hp.one, ex]
  let mm : Hp := fun x => if x = b then some o' else m x
  have lm : ∀ h' : Hp, h' b = none → Hp.le h' m → Hp.le h' mm := fun h' e l x y exy => by
    by_cases ex : x = b
    · subst ex; rw [e] at exy; cases exy
    · simp [mm, ex]; exact l _ _ exy
  have lo : Hp.le (Hp.one b o') mm := fun x y e => by
    by_cases ex : x = b
    · subst ex; simpa [Hp.one, mm] using e
    · simp [Hp.one, ex] at e
  refine ⟨⟨h2.trans hb.os, h3.trans hb.tape, h4.trans hb.output, by rw [hw]; simpa using hb.size, fun k hk => ?_⟩, mm, ?_, h1, Hp.union (Hp.one b o') h4', ?_, lm _ n1 l1, Hp.union_le lo (lm _ n4 (Hp.le_trans l4 l2)), hF, Hp.one b o', h4', dj _ n4, Hp.le_union_left _ _, Hp.le_union_right (dj _ n4), by simp [Sl.blk, Hp.one], hs⟩
  · rw [hw, Array.getElem?_setIfInBounds_ne (by omega)]; exact hb.block k hk
  · intro x y e
    by_cases ex : x = b
    · subst ex
      simp [mm] at e; subst e
      refine ⟨hle, ?_⟩
      rw [hw]; simp [hlt]
    · simp [mm, ex] at e
      obtain ⟨p, q⟩ := hm x y e
      refine ⟨p, ?_⟩
      rw [hw, Array.getElem?_setIfInBounds_ne (Ne.symm ex)]; exact q
  · exact Hp.disj_symm (Hp.disj_union (dj _ n1) (Hp.disj_symm (Hp.disj_le d (Hp.le_refl _) l4)))
/-- The frame, widened by what a call does not take. -/
theorem Sat.frame {As R : List Assn} (h : Sat B F (As ++ R) w) : Sat B (all (F :: R)) As w := by
  obtain ⟨hb, m, hm, hs⟩ := h
  refine ⟨hb, m, hm, ?_⟩
  have h1 : sat (As ++ (F :: R)) (baseHp B) m := sat_perm (List.perm_middle.symm) hs
  have h2 := sat_append_iff.1 h1
  exact sat_perm List.perm_append_comm h2
theorem Sat.unframe {As R : List Assn} (h : Sat B (all (F :: R)) As w) : Sat B F (As ++ R) w := by
  obtain ⟨hb, m, hm, hs⟩ := h
  refine ⟨hb, m, hm, ?_⟩
  have h1 : sat (As ++ [sat (F :: R)]) (baseHp B) m := sat_perm (List.perm_append_comm (l₁ := [sat (F :: R)])) hs
  exact sat_perm (List.perm_middle) (sat_append_iff.2 h1)
/-- Facts and witnesses come out of the list. -/
theorem Sat.ex {α : Type} {A : α → Assn} (h : Sat B F (exA A :: Γ) w) : ∃ x, Sat B F (A x :: Γ) w := by
  obtain ⟨hb, m, hm, h1, h2, d, l1, l2, hF, h3, h4, d', l3, l4, ⟨x, hx⟩, hs⟩ := h
  exact ⟨x, hb, m, hm, h1, h2, d, l1, l2, hF, h3, h4, d', l3, l4, hx, hs⟩
theorem Sat.pure {p : Prop} (h : Sat B F (pur p :: Γ) w) : p := by
  obtain ⟨h1, _, hA⟩ := h.peek .here
  exact hA
theorem Sat.all_open {Δ : List Assn} (h : Sat B F (all Δ :: Γ) w) : Sat B F (Δ ++ Γ) w :=
  h.imp fun _ hs => sat_perm List.perm_append_comm (sat_append_iff.2 (sat_perm (List.perm_append_comm (l₁ := [sat Δ])) hs))
theorem Sat.all_close {Δ : List Assn} (h : Sat B F (Δ ++ Γ) w) : Sat B F (all Δ :: Γ) w :=
  h.imp fun _ hs => sat_perm (List.perm_append_comm (l₂ := [sat Δ])) (sat_append_iff.1 (sat_perm List.perm_append_comm hs))
theorem Sat.put_ex {α : Type} {A : α → Assn} (x : α) (h : Sat B F (A x :: Γ) w) : Sat B F (exA A :: Γ) w := by
  obtain ⟨hb, m, hm, h1, h2, d, l1, l2, hF, h3, h4, d', l3, l4, hx, hs⟩ := h
  exact ⟨hb, m, hm, h1, h2, d, l1, l2, hF, h3, h4, d', l3, l4, ⟨x, hx⟩, hs⟩
theorem Sat.put_pure {p : Prop} (hp : p) (h : Sat B F Γ w) : Sat B F (pur p :: Γ) w :=
  h.imp fun m hs => ⟨Hp.empty, m, fun _ => .inl rfl, fun _ _ e => (by cases e), Hp.le_refl _, hp, hs⟩
/-- Two blocks of the list are two. -/
theorem Sat.ne {b c : Nat} {o o' : Obj} (h : Sat B F (Sl.blk b o :: Sl.blk c o' :: Γ) w) : b ≠ c := by
  rintro rfl
  obtain ⟨hb, m, hm, h1, h2, d, l1, l2, hF, h3, h4, d', l3, l4, hx, h5, h6, d'', l5, l6, hy, hs⟩ := h
  rcases d' b with e | e
  · rw [show h3 b = some o from hx] at e; cases e
  · rw [l5 _ _ hy] at e; cases e
end Go.Proofs.YtaeefjcbmkiiaaaGreatDoor.Sl
/- A region whose order is open, carried out in one order: the machine's answer is that order's, where what floats is read-only and stays readable. -/
namespace Go.Proofs.YtaeefjcbmkiiaaaGreatDoor.Sl
open Go Go.RowKit

/-- One operation of a plan: is it carried out ahead of its turn (it changes nothing but its temporary)? which of those that were carried out ahead must be readable still behind it? -/
structure Stp where
  o : Oper
  fl : Bool
  rs : List Oper

def Stp.plain (o : Oper) : Stp := ⟨o, false, []⟩

def QG (G : Act → World → Prop) : Exit → Act → World → Prop
  | .normal, a, w => G a w
  | _, _, _ => False

def Stable (P : Program) (ops : Array Oper) (r : Oper) (a : Act) (w : World) : Prop :=
  Region.wanted r (yielded ops a.tmps) = true → ∀ d, r.dst = some d → (execOp a.eval r).run P w = .ok (.value (a.tmps.getD d undef)) w

/-- The operations of a plan, one behind the other. -/
def CR (P : Program) (ops : Array Oper) (G : Act → World → Prop) : List Stp → Act → World → Prop
  | [], a, w => G a w
  | s :: l, a, w =>
    if Region.wanted s.o (yielded ops a.tmps) = true then
      if s.fl = true then ∃ v, (execOp a.eval s.o).run P w = .ok (.value v) w ∧ CR P ops G l (a.put s.o.dst v) w
      else s.o.upon P a (fun a' w' => (∀ r ∈ s.rs, Stable P ops r a' w') ∧ CR P ops G l a' w') (QG G) ((execOp a.eval s.o).run P w)
    else CR P ops G l (a.put s.o.dst undef) w

section
variable {P : Program} {ops : Array Oper} {G : Act → World → Prop}

theorem upon_mono {o : Oper} {a : Act} {K K' : Act → World → Prop} (h : ∀ a w, K a w → K' a w) {r : Result Next} (hh : o.upon P a K (QG G) r) : o.upon P a K' (QG G) r := by
  cases r with
  | ok n w' =>
    cases n <;> simp only [Oper.upon] at hh ⊢ <;>
      first
        | exact h _ _ hh
        | exact Calls.mono hh (fun e w'' he => by cases e <;> first | exact h _ _ he | exact he)
        | exact Rows.mono hh (fun _ _ he => h _ _ he)
  | halt x w' => cases x <;> simp only [Oper.upon] at hh ⊢ <;> exact hh

/-- The i-th operation. -/
def opAt (ops : Array Oper) (i : Nat) : Oper := (ops[i]?).getD default
theorem opAt_eq {ops : Array Oper} {i : Nat} (h : i < ops.size) : ops[i]? = some (opAt ops i) := by
  unfold opAt; rw [Array.getElem?_eq_getElem h]; rfl

/-- No order is open: the operations as they stand. -/
theorem wpOps_of_CR : ∀ (l : List Nat) (a : Act) (w : World), (∀ i ∈ l, i < ops.size) → CR P ops G (l.map fun i => Stp.plain (opAt ops i)) a w → wpOps P ops (QG G) l a w
  | [], _, _, _, h => h
  | i :: l, a, w, hl, h => by
    have hi : i < ops.size := hl i (List.mem_cons_self ..)
    have ho := opAt_eq hi
    have ih := fun a w => wpOps_of_CR l a w fun j hj => hl j (List.mem_cons_of_mem _ hj)
    simp only [wpOps, ho]
    simp only [List.map_cons, CR, Stp.plain] at h
    split
    · rename_i hw
      rw [if_pos hw] at h
      simp only [Bool.false_eq_true, if_false] at h
      exact .inl (upon_mono (fun a w hh => ih a w hh.2) h)
    · rename_i hw
      rw [if_neg hw] at h
      exact ih _ _ h

theorem range_map_ops (ops : Array Oper) : ((List.range ops.size).map fun i => Stp.plain (opAt ops i)) = ops.toList.map Stp.plain := by
  apply List.ext_getElem
  · simp
  · intro i h1 h2
    have hi : i < ops.size := by simpa using h1
    simp [opAt, hi]

/-! ### an open order -/
theorem getq {x y : Array Value} {t : Nat} (hs : x.size = y.size) (h : x.getD t undef = y.getD t undef) : x[t]? = y[t]? := by
  by_cases ht : t < x.size
  · have ht' : t < y.size := hs ▸ ht
    simp only [Array.getD, ht, ht', dite_true] at h
    rw [Array.getElem?_eq_getElem ht, Array.getElem?_eq_getElem ht']
    exact congrArg some h
  · rw [Array.getElem?_eq_none (by omega), Array.getElem?_eq_none (by omega)]

theorem exec_agree {o : Oper} (hs : ∀ cs b, o.op ≠ .select cs b) {a a' : Act} (h : ∀ t ∈ o.looksAt ops, a.tmps.getD t undef = a'.tmps.getD t undef) :
    execOp a.eval o = execOp a'.eval o :=
  execOp_congr o hs fun x hx => by
    cases x with
    | tmp t => exact h t (List.mem_append_left _ (List.mem_filterMap.2 ⟨.tmp t, by simpa using hx, rfl⟩))
    | _ => rfl
theorem wanted_agree {o : Oper} {a a' : Act} (hs : a.tmps.size = a'.tmps.size) (h : ∀ t ∈ o.looksAt ops, a.tmps.getD t undef = a'.tmps.getD t undef) :
    Region.wanted o (yielded ops a.tmps) = Region.wanted o (yielded ops a'.tmps) := by
  unfold Region.wanted
  cases hg : o.guard with
  | none => rfl
  | some gw =>
    obtain ⟨g, want⟩ := gw
    have hy : yielded ops a.tmps g = yielded ops a'.tmps g := by
      unfold yielded
      cases ht : (ops[g]?).bind (·.dst) with
      | none => rfl
      | some t =>
        have := getq hs (h t (List.mem_append_right _ (by simp [hg, ht])))
        simp only [Option.bind_some, this]
    simp only [hy]

theorem getD_put (a : Act) (dst : Option Tmp) (v : Value) (t : Nat) (h : dst ≠ some t) : (a.put dst v).tmps.getD t undef = a.tmps.getD t undef := by
  cases dst with
  | none => rfl
  | some d =>
    have hne : d ≠ t := fun e => h (e ▸ rfl)
    simp [Act.put, Array.getElem?_setIfInBounds_ne hne]
theorem size_put (a : Act) (dst : Option Tmp) (v : Value) : (a.put dst v).tmps.size = a.tmps.size := by cases dst <;> simp [Act.put]
theorem defers_put (a : Act) (dst : Option Tmp) (v : Value) : (a.put dst v).defers = a.defers := by cases dst <;> rfl

/-- One number of a plan. -/
abbrev Pl := Nat × Bool × List Nat
def stp (ops : Array Oper) (p : Pl) : Stp := ⟨opAt ops p.1, p.2.1, p.2.2.map fun i => opAt ops i⟩

def isSelect : Op → Bool | .select .. => true | _ => false

/-- Must j stand ahead of i? -/
def pre (ops : Array Oper) (i j : Nat) : Bool := ((Region.before ops).getD i 0).testBit j

/-- The edges that bind in any order. -/
def edges (o : Oper) : List Nat := (o.after.toList.filter fun e => Region.binds .any e).map (·.on)

/-- WHAT IS ASKED OF A PLAN: a closed fact. -/
structure PlanOk (ops : Array Oper) (pr : Nat → Nat → Bool) (plan : List Pl) : Prop where
  all : ∀ i, i < ops.size → i ∈ plan.map (·.1)
  lt : ∀ p ∈ plan, p.1 < ops.size
  nodup : (plan.map (·.1)).Nodup
  nosel : ∀ i, i < ops.size → isSelect (opAt ops i).op = false
  dst : ∀ i, i < ops.size → ∀ j, j < ops.size → i ≠ j → ∀ d, (opAt ops i).dst = some d → (opAt ops j).dst ≠ some d
  pr_ok : ∀ i, i < ops.size → ∀ j, j < ops.size → pr i j = true → ∃ e ∈ edges (opAt ops i), e = j ∨ pr e j = true
  fldst : ∀ p ∈ plan, p.2.1 = true → (opAt ops p.1).dst.isSome = true
  reads : ∀ p ∈ plan, p.2.1 = true → ∀ j, j < ops.size → ∀ d, (opAt ops p.1).dst = some d → d ∈ (opAt ops j).looksAt ops → pr j p.1 = true
  topo : ∀ l p r, plan = l ++ p :: r → ∀ e ∈ edges (opAt ops p.1), e ∈ l.map (·.1)
  early : ∀ l k m p r, plan = l ++ k :: m ++ p :: r → k.2.1 = false → p.2.1 = true → ∃ q ∈ (k :: m).map (·.1), pr p.1 q = true
  rechk : ∀ l p m k r, plan = l ++ p :: m ++ k :: r → p.2.1 = true → k.2.1 = false → (p.1 ∈ k.2.2 ∧ ∀ d, (opAt ops k.1).dst = some d → d ∉ (opAt ops p.1).looksAt ops) ∨ pr k.1 p.1 = true

/-- Of one that was carried out ahead. -/
def Pend (P : Program) (ops : Array Oper) (r : Nat) (a : Act) (w : World) : Prop :=
  (Region.wanted (opAt ops r) (yielded ops a.tmps) = true → ∀ d, (opAt ops r).dst = some d → (execOp a.eval (opAt ops r)).run P w = .ok (.value (a.tmps.getD d undef)) w) ∧
  (Region.wanted (opAt ops r) (yielded ops a.tmps) = false → ∀ d, (opAt ops r).dst = some d → a.tmps.getD d undef = undef)

/-- The two that go in step: 'a', as the order goes; 'c', as the plan goes, ahead of it by what is pending. -/
structure Inv (P : Program) (ops : Array Oper) (G : Act → World → Prop) (pr : Nat → Nat → Bool) (plan done : List Pl) (rest : List Pl) (pend : List Nat) (listed : Array Bool) (a c : Act) (w : World) : Prop where
  cut : plan = done ++ rest
  size : listed.size = ops.size
  isl : ∀ i, i < ops.size → (listed.getD i false = true ↔ i ∈ done.map (·.1) ∧ i ∉ pend)
  pin : ∀ r ∈ pend, ∃ p ∈ done, p.1 = r ∧ p.2.1 = true
  pnd : pend.Nodup
  down : ∀ i, i < ops.size → listed.getD i false = true → ∀ j, j < ops.size → pr i j = true → listed.getD j false = true
  tsize : a.tmps.size = c.tmps.size
  tmps : ∀ t, (∀ r ∈ pend, (opAt ops r).dst ≠ some t) → a.tmps.getD t undef = c.tmps.getD t undef
  defers : a.defers = c.defers
  fits : ∀ i, i < ops.size → ∀ d, (opAt ops i).dst = some d → d < c.tmps.size
  pok : ∀ r ∈ pend, Pend P ops r c w
  run : CR P ops G (rest.map (stp ops)) c w

variable {pr : Nat → Nat → Bool} {plan done rest : List Pl} {pend : List Nat} {listed : Array Bool} {a c : Act} {w : World}

theorem PlanOk.nosel' (ok : PlanOk ops pr plan) {i : Nat} (hi : i < ops.size) : ∀ cs b, (opAt ops i).op ≠ .select cs b := fun cs b e => by
  have := ok.nosel i hi; rw [e] at this; cases this

theorem uniq_of : ∀ {l : List Pl}, (l.map (·.1)).Nodup → ∀ {p q : Pl}, p ∈ l → q ∈ l → p.1 = q.1 → p = q
  | x :: l, h, p, q, hp, hq, e => by
    simp only [List.map_cons, List.nodup_cons] at h
    rcases List.mem_cons.1 hp with rfl | hp'
    · rcases List.mem_cons.1 hq with rfl | hq'
      · rfl
      · exact absurd (List.mem_map.2 ⟨q, hq', e.symm⟩) h.1
    · rcases List.mem_cons.1 hq with rfl | hq'
      · exact absurd (List.mem_map.2 ⟨p, hp', e⟩) h.1
      · exact uniq_of h.2 hp' hq' e

theorem Inv.disj (ok : PlanOk ops pr plan) (I : Inv P ops G pr plan done rest pend listed a c w) {p q : Pl} (hp : p ∈ done) (hq : q ∈ rest) : p.1 ≠ q.1 := by
  intro e
  have := ok.nodup
  rw [I.cut, List.map_append, List.nodup_append] at this
  exact this.2.2 p.1 (List.mem_map.2 ⟨p, hp, rfl⟩) q.1 (List.mem_map.2 ⟨q, hq, rfl⟩) e

theorem Inv.mem_done (I : Inv P ops G pr plan done rest pend listed a c w) {p : Pl} (hp : p ∈ done) : p ∈ plan := by rw [I.cut]; exact List.mem_append_left _ hp
theorem Inv.mem_rest (I : Inv P ops G pr plan done rest pend listed a c w) {p : Pl} (hp : p ∈ rest) : p ∈ plan := by rw [I.cut]; exact List.mem_append_right _ hp

/-- What must stand ahead stands ahead in the plan. -/
theorem PlanOk.before (ok : PlanOk ops pr plan) : ∀ (n : Nat) (l : List Pl) (p : Pl) (r : List Pl), l.length = n → plan = l ++ p :: r → ∀ j, j < ops.size → pr p.1 j = true → j ∈ l.map (·.1) := by
  intro n
  induction n using Nat.strongRecOn with
  | _ n ih =>
    intro l p r hn hcut j hj hpr
    have hp : p ∈ plan := by rw [hcut]; simp
    obtain ⟨e, he, h⟩ := ok.pr_ok p.1 (ok.lt p hp) j hj hpr
    have hel := ok.topo l p r hcut e he
    rcases h with rfl | h
    · exact hel
    · obtain ⟨q, hq, rfl⟩ := List.mem_map.1 hel
      obtain ⟨l1, l2, rfl⟩ := List.append_of_mem hq
      have := ih l1.length (by subst hn; simp) l1 q (l2 ++ p :: r) rfl (by rw [hcut]; simp) j hj h
      simp only [List.map_append, List.mem_append]
      exact .inl this

theorem getD_put_same (a : Act) (d : Tmp) (v : Value) (h : d < a.tmps.size) : (a.put (some d) v).tmps.getD d undef = v := by
  simp [Act.put, h]

theorem PlanOk.self (ok : PlanOk ops pr plan) {p : Pl} (hp : p ∈ plan) (hf : p.2.1 = true) {d : Tmp} (hd : (opAt ops p.1).dst = some d) : d ∉ (opAt ops p.1).looksAt ops := by
  intro h
  obtain ⟨l, r, hcut⟩ := List.append_of_mem hp
  have := ok.before _ l p r rfl hcut p.1 (ok.lt p hp) (ok.reads p hp hf p.1 (ok.lt p hp) d hd h)
  have hn := ok.nodup
  rw [hcut, List.map_append, List.nodup_append] at hn
  exact hn.2.2 p.1 this p.1 (by simp) rfl

/-- Nothing that a reader looks at has turned. -/
theorem Pend.keep {r : Nat} (hr : r < ops.size) (ok : PlanOk ops pr plan) {d : Option Tmp} {u : Value} (h : Pend P ops r c w) (hl : ∀ t, d = some t → t ∉ (opAt ops r).looksAt ops) (hd : ∀ t, d = some t → (opAt ops r).dst ≠ some t) :
    Pend P ops r (c.put d u) w := by
  have hw := wanted_put (ops := ops) (opAt ops r) c d u hl
  have hx := execOp_put (ops := ops) (opAt ops r) (ok.nosel' hr) c d u hl
  refine ⟨fun hwant e he => ?_, fun hwant e he => ?_⟩
  · rw [getD_put c d u e (fun h' => hd e h' he), hx]
    exact h.1 (hw ▸ hwant) e he
  · rw [getD_put c d u e (fun h' => hd e h' he)]
    exact h.2 (hw ▸ hwant) e he

/-- The plan runs ahead by one that floats. -/
theorem Inv.ahead (ok : PlanOk ops pr plan) {p : Pl} (I : Inv P ops G pr plan done (p :: rest) pend listed a c w) (hf : p.2.1 = true) :
    ∃ c', Inv P ops G pr plan (done ++ [p]) rest (p.1 :: pend) listed a c' w := by
  have hp : p ∈ plan := I.mem_rest (List.mem_cons_self ..)
  have hlt := ok.lt p hp
  obtain ⟨d, hd⟩ := Option.isSome_iff_exists.1 (ok.fldst p hp hf)
  have hds : d < c.tmps.size := I.fits p.1 hlt d hd
  have hnd : p.1 ∉ done.map (·.1) := fun h => by
    obtain ⟨q, hq, e⟩ := List.mem_map.1 h
    exact I.disj ok hq (List.mem_cons_self ..) e
  have hnp : p.1 ∉ pend := fun h => by
    obtain ⟨q, hq, e, _⟩ := I.pin _ h
    exact hnd (List.mem_map.2 ⟨q, hq, e⟩)
  have hself := ok.self hp hf hd
  -- pending ones do not look at d: they stand ahead of p in the plan
  have hpend : ∀ r ∈ pend, r < ops.size ∧ r ≠ p.1 ∧ d ∉ (opAt ops r).looksAt ops := by
    intro r hr
    obtain ⟨q, hq, e, hqf⟩ := I.pin r hr
    have hqp := I.mem_done hq
    have hrl : r < ops.size := e ▸ ok.lt q hqp
    refine ⟨hrl, fun h => hnp (h ▸ hr), fun hmem => ?_⟩
    have hpr := ok.reads p hp hf r hrl d hd hmem
    obtain ⟨l1, l2, h2⟩ := List.append_of_mem hq
    have := ok.before _ l1 q (l2 ++ p :: rest) rfl (by rw [I.cut, h2]; simp) p.1 hlt (by rw [e]; exact hpr)
    exact hnd (by rw [h2]; simp only [List.map_append, List.mem_append]; exact .inl this)
  -- whatever is put there
  have key : ∀ u, CR P ops G (rest.map (stp ops)) (c.put (some d) u) w → Pend P ops p.1 (c.put (some d) u) w → Inv P ops G pr plan (done ++ [p]) rest (p.1 :: pend) listed a (c.put (some d) u) w := by
    intro u hrun hpp
    refine ⟨by rw [I.cut]; simp, I.size, fun i hi => ?_, ?_, List.nodup_cons.2 ⟨hnp, I.pnd⟩, I.down, by rw [size_put]; exact I.tsize, fun t ht => ?_, by rw [defers_put]; exact I.defers, fun i hi e he => by rw [size_put]; exact I.fits i hi e he, ?_, hrun⟩
    · rw [I.isl i hi]
      constructor
      · rintro ⟨h1, h2⟩
        refine ⟨by simp only [List.map_append, List.mem_append]; exact .inl h1, fun h => ?_⟩
        rcases List.mem_cons.1 h with rfl | h
        · exact hnd h1
        · exact h2 h
      · rintro ⟨h1, h2⟩
        simp only [List.map_append, List.mem_append, List.map_cons, List.map_nil, List.mem_singleton] at h1
        rcases h1 with h1 | rfl
        · exact ⟨h1, fun h => h2 (List.mem_cons_of_mem _ h)⟩
        · exact absurd (List.mem_cons_self ..) h2
    · intro r hr
      rcases List.mem_cons.1 hr with rfl | hr
      · exact ⟨p, by simp, rfl, hf⟩
      · obtain ⟨q, hq, e⟩ := I.pin r hr
        exact ⟨q, by simp [hq], e⟩
    · have htd : d ≠ t := fun e => ht p.1 (List.mem_cons_self ..) (e ▸ hd)
      rw [getD_put _ _ _ _ (fun e => htd (Option.some.inj e))]
      exact I.tmps t fun r hr => ht r (List.mem_cons_of_mem _ hr)
    · intro r hr
      rcases List.mem_cons.1 hr with rfl | hr
      · exact hpp
      · obtain ⟨hrl, hne, hnl⟩ := hpend r hr
        refine (I.pok r hr).keep hrl ok (fun t e => by cases e; exact hnl) (fun t e => by cases e; exact fun h => ok.dst r hrl p.1 hlt hne d h hd)
  have hrun := I.run
  simp only [List.map_cons, CR] at hrun
  have hso : (stp ops p).o = opAt ops p.1 := rfl
  have hfl : (stp ops p).fl = true := hf
  rw [hso, hfl, hd] at hrun
  have hw : ∀ u, Region.wanted (opAt ops p.1) (yielded ops (c.put (some d) u).tmps) = Region.wanted (opAt ops p.1) (yielded ops c.tmps) :=
    fun u => wanted_put (ops := ops) (opAt ops p.1) c (some d) u (fun t e => by cases e; exact hself)
  have hx : ∀ u, execOp (c.put (some d) u).eval (opAt ops p.1) = execOp c.eval (opAt ops p.1) :=
    fun u => execOp_put (ops := ops) (opAt ops p.1) (ok.nosel' hlt) c (some d) u (fun t e => by cases e; exact hself)
  split at hrun
  · rename_i hwant
    rw [if_pos rfl] at hrun
    obtain ⟨v, hv, hrun⟩ := hrun
    refine ⟨_, key v hrun ⟨fun _ e he => ?_, fun hf' => ?_⟩⟩
    · rw [hd] at he; cases he
      rw [hx, getD_put_same _ _ _ hds]; exact hv
    · rw [hw, hwant] at hf'; cases hf'
  · rename_i hwant
    refine ⟨_, key undef hrun ⟨fun hf' => ?_, fun _ e he => ?_⟩⟩
    · rw [hw] at hf'; exact absurd hf' hwant
    · rw [hd] at he; cases he
      exact getD_put_same _ _ _ hds

/-- It runs ahead as far as it can. -/
theorem Inv.aheadAll (ok : PlanOk ops pr plan) : ∀ (rest done : List Pl) (pend : List Nat) (c : Act), Inv P ops G pr plan done rest pend listed a c w →
    ∃ done' rest' pend' c', Inv P ops G pr plan done' rest' pend' listed a c' w ∧ (∀ p l, rest' = p :: l → p.2.1 = false) ∧ pend'.length + rest'.length = pend.length + rest.length := by
  intro rest
  induction rest with
  | nil => exact fun done pend c I => ⟨done, [], pend, c, I, (fun p l e => by cases e), rfl⟩
  | cons p rest ih =>
    intro done pend c I
    by_cases hf : p.2.1 = true
    · obtain ⟨c', I'⟩ := I.ahead ok hf
      obtain ⟨d', r', p', c'', I'', h, hn⟩ := ih _ _ _ I'
      refine ⟨d', r', p', c'', I'', h, ?_⟩
      rw [hn]; simp; omega
    · exact ⟨done, p :: rest, pend, c, I, (fun q l e => by cases e; simpa using hf), rfl⟩

theorem getD_set (L : Array Bool) (i j : Nat) (h : i < L.size) : (L.setIfInBounds i true).getD j false = if i = j then true else L.getD j false := by
  by_cases e : i = j
  · subst e; simp [Array.getD, h]
  · rw [if_neg e]
    simp only [Array.getD_eq_getD_getElem?, Array.getElem?_setIfInBounds_ne e]

/-- What stands ready looks at nothing that is pending. -/
theorem Inv.clean (ok : PlanOk ops pr plan) (I : Inv P ops G pr plan done rest pend listed a c w) {i : Nat} (hi : i < ops.size) (hready : ∀ j, j < ops.size → pr i j = true → listed.getD j false = true) :
    ∀ t ∈ (opAt ops i).looksAt ops, a.tmps.getD t undef = c.tmps.getD t undef := by
  intro t ht
  refine I.tmps t fun r hr hd => ?_
  obtain ⟨q, hq, e, hqf⟩ := I.pin r hr
  have hqp := I.mem_done hq
  have hrl : r < ops.size := e ▸ ok.lt q hqp
  have hpr := ok.reads q hqp hqf i hi t (by rw [e]; exact hd) ht
  rw [e] at hpr
  exact ((I.isl r hrl).1 (hready r hrl hpr)).2 hr

/-- The order comes to one that the plan has carried out ahead. -/
theorem Inv.catch (ok : PlanOk ops pr plan) (I : Inv P ops G pr plan done rest pend listed a c w) {r : Nat} (hr : r ∈ pend) (hready : ∀ j, j < ops.size → pr r j = true → listed.getD j false = true)
    {K : Act → World → Prop} (hK : ∀ a', Inv P ops G pr plan done rest (pend.erase r) (listed.setIfInBounds r true) a' c w → K a' w) : wpOp P ops (QG G) r K a w := by
  obtain ⟨q, hq, e, hqf⟩ := I.pin r hr
  have hqp := I.mem_done hq
  have hrl : r < ops.size := e ▸ ok.lt q hqp
  obtain ⟨d, hd⟩ := Option.isSome_iff_exists.1 (ok.fldst q hqp hqf)
  rw [e] at hd
  have hds : d < a.tmps.size := I.tsize ▸ I.fits r hrl d hd
  have hclean := I.clean ok hrl hready
  have hw := wanted_agree (ops := ops) (o := opAt ops r) I.tsize hclean
  have hx := exec_agree (ops := ops) (ok.nosel' hrl) hclean
  have hself : d ∉ (opAt ops r).looksAt ops := by rw [← e]; exact ok.self hqp hqf (by rw [e]; exact hd)
  have key : Inv P ops G pr plan done rest (pend.erase r) (listed.setIfInBounds r true) (a.put (some d) (c.tmps.getD d undef)) c w := by
    refine ⟨I.cut, by simp [I.size], fun i hi => ?_, fun x hx' => I.pin x (List.mem_of_mem_erase hx'), I.pnd.erase _, fun i hi hl j hj hpr => ?_, by rw [size_put]; exact I.tsize, fun t ht => ?_, by rw [defers_put]; exact I.defers, I.fits, fun x hx' => I.pok x (List.mem_of_mem_erase hx'), I.run⟩
    · rw [getD_set _ _ _ (by rw [I.size]; exact hrl)]
      by_cases hir : r = i
      · subst hir
        simp only [if_true, true_iff]
        exact ⟨List.mem_map.2 ⟨q, hq, e⟩, fun h => (List.Nodup.mem_erase_iff I.pnd).1 h |>.1 rfl⟩
      · rw [if_neg hir, I.isl i hi, List.Nodup.mem_erase_iff I.pnd]
        exact ⟨fun ⟨h1, h2⟩ => ⟨h1, fun h => h2 h.2⟩, fun ⟨h1, h2⟩ => ⟨h1, fun h => h2 ⟨fun h' => hir h'.symm, h⟩⟩⟩
    · rw [getD_set _ _ _ (by rw [I.size]; exact hrl)] at hl ⊢
      by_cases hjr : r = j
      · rw [if_pos hjr]
      · rw [if_neg hjr]
        by_cases hir : r = i
        · subst hir; exact hready j hj hpr
        · rw [if_neg hir] at hl; exact I.down i hi hl j hj hpr
    · by_cases htd : d = t
      · subst htd; exact getD_put_same _ _ _ hds
      · rw [getD_put _ _ _ _ (fun h => htd (Option.some.inj h))]
        refine I.tmps t fun x hx' h => ?_
        by_cases hxr : x = r
        · subst hxr; rw [hd] at h; exact htd (Option.some.inj h)
        · exact ht x ((List.Nodup.mem_erase_iff I.pnd).2 ⟨hxr, hx'⟩) h
  unfold wpOp
  simp only [opAt_eq hrl]
  have hp := I.pok r hr
  split
  · rename_i hwant
    left
    unfold Oper.wp
    rw [hx, hp.1 (hw ▸ hwant) d hd]
    simp only [Oper.upon, hd]
    exact hK _ key
  · rename_i hwant
    have : c.tmps.getD d undef = undef := hp.2 (by rw [← hw]; simpa using hwant) d hd
    rw [this] at key
    rw [hd]
    exact hK _ key

theorem upon_two {o : Oper} {a c : Act} {Ka Kc : Act → World → Prop} {r : Result Next} (h : o.upon P c Kc (QG G) r)
    (hv : ∀ u w, Kc (c.put o.dst u) w → Ka (a.put o.dst u) w) (hd : ∀ d w, Kc (({ c with defers := d :: c.defers } : Act).put o.dst undef) w → Ka (({ a with defers := d :: a.defers } : Act).put o.dst undef) w) :
    o.upon P a Ka (QG G) r := by
  cases r with
  | ok n w' =>
    cases n <;> simp only [Oper.upon] at h ⊢
    case value u => exact hv _ _ h
    case skip => exact hv _ _ h
    case defer d => exact hd _ _ h
    case enter f args => exact Calls.mono h fun e w'' he => by cases e <;> first | exact hv _ _ he | exact he
    case row row args => exact Rows.mono h fun u w'' he => hv _ _ he
  | halt x w' => cases x <;> simp only [Oper.upon] at h ⊢ <;> exact h

/-- The order comes to the plan's next one that acts. -/
theorem Inv.step (ok : PlanOk ops pr plan) {p : Pl} (I : Inv P ops G pr plan done (p :: rest) pend listed a c w) (hf : p.2.1 = false) (hready : ∀ j, j < ops.size → pr p.1 j = true → listed.getD j false = true)
    {K : Act → World → Prop} (hK : ∀ a' c' w', Inv P ops G pr plan (done ++ [p]) rest pend (listed.setIfInBounds p.1 true) a' c' w' → K a' w') : wpOp P ops (QG G) p.1 K a w := by
  have hp : p ∈ plan := I.mem_rest (List.mem_cons_self ..)
  have hlt := ok.lt p hp
  have hnd : p.1 ∉ done.map (·.1) := fun h => by
    obtain ⟨q, hq, e⟩ := List.mem_map.1 h
    exact I.disj ok hq (List.mem_cons_self ..) e
  have hnp : p.1 ∉ pend := fun h => by
    obtain ⟨q, hq, e, _⟩ := I.pin _ h
    exact hnd (List.mem_map.2 ⟨q, hq, e⟩)
  have hclean := I.clean ok hlt hready
  have hw := wanted_agree (ops := ops) (o := opAt ops p.1) I.tsize hclean
  have hx := exec_agree (ops := ops) (ok.nosel' hlt) hclean
  have hpend : ∀ r ∈ pend, r < ops.size ∧ r ≠ p.1 ∧ r ∈ p.2.2 ∧ ∀ d, (opAt ops p.1).dst = some d → d ∉ (opAt ops r).looksAt ops := by
    intro r hr
    obtain ⟨q, hq, e, hqf⟩ := I.pin r hr
    have hqp := I.mem_done hq
    have hrl : r < ops.size := e ▸ ok.lt q hqp
    refine ⟨hrl, fun h => hnp (h ▸ hr), ?_⟩
    obtain ⟨l1, l2, h2⟩ := List.append_of_mem hq
    rcases ok.rechk l1 q l2 p rest (by rw [I.cut, h2]) hqf hf with h | h
    · rw [e] at h; exact h
    · rw [e] at h
      exact absurd hr ((I.isl r hrl).1 (hready r hrl h)).2
  have key : ∀ (a0 c0 : Act) (u : Value) (w' : World), a0.tmps = a.tmps → c0.tmps = c.tmps → a0.defers = c0.defers →
      (∀ r ∈ pend, Pend P ops r (c0.put (opAt ops p.1).dst u) w') → CR P ops G (rest.map (stp ops)) (c0.put (opAt ops p.1).dst u) w' →
      Inv P ops G pr plan (done ++ [p]) rest pend (listed.setIfInBounds p.1 true) (a0.put (opAt ops p.1).dst u) (c0.put (opAt ops p.1).dst u) w' := by
    intro a0 c0 u w' ha hc hdf hpd hrun
    refine ⟨by rw [I.cut]; simp, by simp [I.size], fun i hi => ?_, fun r hr => ?_, I.pnd, fun i hi hl j hj hpr => ?_, by rw [size_put, size_put, ha, hc]; exact I.tsize, fun t ht => ?_, by rw [defers_put, defers_put]; exact hdf, fun i hi e he => by rw [size_put, hc]; exact I.fits i hi e he, hpd, hrun⟩
    · rw [getD_set _ _ _ (by rw [I.size]; exact hlt)]
      by_cases hip : p.1 = i
      · subst hip
        simp only [if_true, true_iff]
        exact ⟨by simp, hnp⟩
      · rw [if_neg hip, I.isl i hi]
        simp only [List.map_append, List.mem_append, List.map_cons, List.map_nil, List.mem_singleton]
        exact ⟨fun ⟨h1, h2⟩ => ⟨.inl h1, h2⟩, fun ⟨h1, h2⟩ => ⟨h1.resolve_right (fun h => hip h.symm), h2⟩⟩
    · obtain ⟨q, hq, e⟩ := I.pin r hr
      exact ⟨q, by simp [hq], e⟩
    · rw [getD_set _ _ _ (by rw [I.size]; exact hlt)] at hl ⊢
      by_cases hjr : p.1 = j
      · rw [if_pos hjr]
      · rw [if_neg hjr]
        by_cases hir : p.1 = i
        · subst hir; exact hready j hj hpr
        · rw [if_neg hir] at hl; exact I.down i hi hl j hj hpr
    · cases hdd : (opAt ops p.1).dst with
      | none => simp only [Act.put, ha, hc]; exact I.tmps t ht
      | some d =>
        by_cases htd : d = t
        · subst htd
          have hds := I.fits p.1 hlt d hdd
          rw [getD_put_same _ _ _ (by rw [ha, I.tsize]; exact hds), getD_put_same _ _ _ (by rw [hc]; exact hds)]
        · rw [getD_put _ _ _ _ (fun h => htd (Option.some.inj h)), getD_put _ _ _ _ (fun h => htd (Option.some.inj h)), ha, hc]
          exact I.tmps t ht
  have hrun := I.run
  simp only [List.map_cons, CR] at hrun
  have hso : (stp ops p).o = opAt ops p.1 := rfl
  have hfl : (stp ops p).fl = false := hf
  rw [hso, hfl] at hrun
  -- an unwanted reader stays so
  have hun : ∀ r ∈ pend, ∀ (c0 : Act) (u : Value), c0.tmps = c.tmps → Region.wanted (opAt ops r) (yielded ops (c0.put (opAt ops p.1).dst u).tmps) = Region.wanted (opAt ops r) (yielded ops c.tmps) := by
    intro r hr c0 u hc
    obtain ⟨hrl, hne, _, hnl⟩ := hpend r hr
    have := wanted_put (ops := ops) (opAt ops r) c0 (opAt ops p.1).dst u hnl
    rw [this, hc]
  have hval : ∀ r ∈ pend, ∀ (c0 : Act) (u : Value), c0.tmps = c.tmps → ∀ d, (opAt ops r).dst = some d → (c0.put (opAt ops p.1).dst u).tmps.getD d undef = c.tmps.getD d undef := by
    intro r hr c0 u hc d hd
    obtain ⟨hrl, hne, _, hnl⟩ := hpend r hr
    rw [getD_put _ _ _ _ (fun h => ok.dst r hrl p.1 hlt hne d hd h), hc]
  unfold wpOp
  simp only [opAt_eq hlt]
  have hpd : ∀ (c0 : Act) (u : Value) (w' : World), c0.tmps = c.tmps → (∀ r ∈ (stp ops p).rs, Stable P ops r (c0.put (opAt ops p.1).dst u) w') → ∀ r ∈ pend, Pend P ops r (c0.put (opAt ops p.1).dst u) w' := by
    intro c0 u w' hc hst r hr
    obtain ⟨hrl, hne, hin, hnl⟩ := hpend r hr
    refine ⟨fun hwant d hd => hst (opAt ops r) (List.mem_map.2 ⟨r, hin, rfl⟩) hwant d hd, fun hwant d hd => ?_⟩
    rw [hval r hr c0 u hc d hd]
    exact (I.pok r hr).2 (by rw [← hun r hr c0 u hc]; exact hwant) d hd
  split
  · rename_i hwant
    rw [if_pos (hw ▸ hwant)] at hrun
    simp only [Bool.false_eq_true, if_false] at hrun
    left
    unfold Oper.wp
    rw [hx]
    refine upon_two hrun (fun u w' hh => hK _ _ _ (key a c u w' rfl rfl I.defers (hpd c u w' rfl hh.1) hh.2)) (fun d w' hh => ?_)
    exact hK _ _ _ (key { a with defers := d :: a.defers } { c with defers := d :: c.defers } undef w' rfl rfl (by simp [I.defers]) (hpd { c with defers := d :: c.defers } undef w' rfl hh.1) hh.2)
  · rename_i hwant
    have hwc : ¬ Region.wanted (opAt ops p.1) (yielded ops c.tmps) = true := by rw [← hw]; exact hwant
    rw [if_neg hwc] at hrun
    refine hK _ _ _ (key a c undef w rfl rfl I.defers (fun r hr => ?_) hrun)
    obtain ⟨hrl, hne, _, hnl⟩ := hpend r hr
    exact (I.pok r hr).keep hrl ok hnl (fun t e h => ok.dst r hrl p.1 hlt hne t h e)

theorem mem_ready {i : Nat} (h : i ∈ Region.ready .any ops listed) (hs : listed.size = ops.size) : i < ops.size ∧ listed.getD i false = false ∧ ∀ e ∈ edges (opAt ops i), listed.getD e false = true := by
  unfold Region.ready at h
  simp only [List.mem_filter, List.mem_range, Bool.and_eq_true, Bool.not_eq_true'] at h
  obtain ⟨h1, h2, h3⟩ := h
  refine ⟨h1, ?_, fun e he => ?_⟩
  · simpa [Array.getD, hs, h1] using h2
  · rw [opAt_eq h1] at h3
    simp only [Option.map_some, Option.getD_some] at h3
    obtain ⟨x, hx, rfl⟩ := List.mem_map.1 he
    obtain ⟨hx1, hx2⟩ := List.mem_filter.1 hx
    have := Array.all_eq_true'.1 h3 x (by simpa using hx1)
    simpa [hx2] using this
theorem ready_mem {i : Nat} (hs : listed.size = ops.size) (h1 : i < ops.size) (h2 : listed.getD i false = false) (h3 : ∀ e ∈ edges (opAt ops i), listed.getD e false = true) : i ∈ Region.ready .any ops listed := by
  unfold Region.ready
  simp only [List.mem_filter, List.mem_range, Bool.and_eq_true, Bool.not_eq_true']
  refine ⟨h1, by simpa [Array.getD, hs, h1] using h2, ?_⟩
  rw [opAt_eq h1]
  simp only [Option.map_some, Option.getD_some]
  refine Array.all_eq_true'.2 fun x hx => ?_
  by_cases hb : Region.binds .any x = true
  · simp [hb, h3 x.on (List.mem_map.2 ⟨x, List.mem_filter.2 ⟨by simpa using hx, hb⟩, rfl⟩)]
  · simp [hb]

theorem first_not (q : Pl → Bool) : ∀ (l : List Pl), (∃ x ∈ l, q x = false) → ∃ l1 p l2, l = l1 ++ p :: l2 ∧ q p = false ∧ ∀ x ∈ l1, q x = true
  | [], ⟨_, h, _⟩ => by cases h
  | x :: l, h => by
    cases hx : q x with
    | false => exact ⟨[], x, l, rfl, hx, fun y hy => by cases hy⟩
    | true =>
      obtain ⟨y, hy, hq⟩ := h
      rcases List.mem_cons.1 hy with rfl | hy
      · rw [hx] at hq; cases hq
      · obtain ⟨l1, p, l2, rfl, hp, hl⟩ := first_not q l ⟨y, hy, hq⟩
        exact ⟨x :: l1, p, l2, rfl, hp, fun z hz => (List.mem_cons.1 hz).elim (fun e => e ▸ hx) (hl z)⟩

theorem last_acts : ∀ (m : List Pl) (p : Pl), p.2.1 = false → ∃ m1 k m2, p :: m = m1 ++ k :: m2 ∧ k.2.1 = false ∧ ∀ x ∈ m2, x.2.1 = true
  | [], p, hpf => ⟨[], p, [], rfl, hpf, fun x hx => by cases hx⟩
  | y :: m, p, hpf => by
    cases hyf : y.2.1 with
    | false =>
      obtain ⟨m1, k, m2, e, h1, h2⟩ := last_acts m y hyf
      exact ⟨p :: m1, k, m2, by rw [e]; rfl, h1, h2⟩
    | true =>
      obtain ⟨m1, k, m2, e, h1, h2⟩ := last_acts m p hpf
      cases m1 with
      | nil =>
        simp only [List.nil_append, List.cons.injEq] at e
        obtain ⟨rfl, rfl⟩ := e
        exact ⟨[], p, y :: m, rfl, hpf, fun x hx => (List.mem_cons.1 hx).elim (fun e => e ▸ hyf) (h2 x)⟩
      | cons z m1 =>
        simp only [List.cons_append, List.cons.injEq] at e
        obtain ⟨rfl, rfl⟩ := e
        exact ⟨p :: y :: m1, k, m2, rfl, h1, h2⟩

/-- What acts, in a plan's order. -/
def actsOf (plan : List Pl) : List Nat := (plan.filter fun p => !p.2.1).map (·.1)
theorem actsOf_cons_t {p : Pl} {l : List Pl} (h : p.2.1 = true) : actsOf (p :: l) = actsOf l := by simp [actsOf, h]
theorem actsOf_cons_f {p : Pl} {l : List Pl} (h : p.2.1 = false) : actsOf (p :: l) = p.1 :: actsOf l := by simp [actsOf, h]

theorem aheadAll_acts (ok : PlanOk ops pr plan) : ∀ (rest done : List Pl) (pend : List Nat) (c : Act), Inv P ops G pr plan done rest pend listed a c w →
    ∃ done' rest' pend' c', Inv P ops G pr plan done' rest' pend' listed a c' w ∧ (∀ p l, rest' = p :: l → p.2.1 = false) ∧ pend'.length + rest'.length = pend.length + rest.length ∧ actsOf rest' = actsOf rest := by
  intro rest
  induction rest with
  | nil => exact fun done pend c I => ⟨done, [], pend, c, I, (fun p l e => by cases e), rfl, rfl⟩
  | cons p rest ih =>
    intro done pend c I
    by_cases hf : p.2.1 = true
    · obtain ⟨c', I'⟩ := I.ahead ok hf
      obtain ⟨d', r', p', c'', I'', h, hn, ha⟩ := ih _ _ _ I'
      exact ⟨d', r', p', c'', I'', h, by rw [hn]; simp; omega, by rw [ha, actsOf_cons_t hf]⟩
    · exact ⟨done, p :: rest, pend, c, I, (fun q l e => by cases e; simpa using hf), rfl, rfl⟩

theorem ready_nonempty (ok : PlanOk ops pr plan) (hs : listed.size = ops.size) (hex : ∃ x ∈ plan, listed.getD x.1 false = false) : Region.ready .any ops listed ≠ [] := by
  intro hnil
  obtain ⟨l1, p, l2, hcut, hp, hl⟩ := first_not (fun x => listed.getD x.1 false) plan hex
  have hpp : p ∈ plan := by rw [hcut]; simp
  have := ready_mem (listed := listed) (i := p.1) hs (ok.lt p hpp) hp (fun e he => by
    obtain ⟨q, hq, rfl⟩ := List.mem_map.1 (ok.topo l1 p l2 hcut e he)
    exact hl q hq)
  rw [hnil] at this; cases this

theorem go_eq (ops : Array Oper) (fuel t : Nat) (listed : Array Bool) : Region.linearise.go .any ops (fuel + 1) t listed [] =
    match (Region.ready .any ops listed)[t % (Region.ready .any ops listed).length]? with
    | some i => i :: Region.linearise.go .any ops fuel (t / (Region.ready .any ops listed).length) (listed.setIfInBounds i true) []
    | none => [] := by
  simp only [Region.linearise.go]
  change (match (Region.ready .any ops listed)[t % (Region.ready .any ops listed).length]? with
      | some i => Region.linearise.go .any ops fuel (t / (Region.ready .any ops listed).length) (listed.setIfInBounds i true) [i]
      | none => [].reverse) = _
  split
  · rw [linearise_go_acc]; rfl
  · rfl
theorem ready_pick (hne : Region.ready .any ops listed ≠ []) (t : Nat) : ∃ i, (Region.ready .any ops listed)[t % (Region.ready .any ops listed).length]? = some i := by
  have hlt : t % (Region.ready .any ops listed).length < (Region.ready .any ops listed).length := Nat.mod_lt _ (List.length_pos_iff.2 hne)
  exact ⟨_, List.getElem?_eq_getElem hlt⟩

/-- THE ORDER THAT WAS PICKED, WHERE WHAT ACTS STANDS IN IT AS IN THE PLAN: the plan's answer. -/
theorem wpOps_of_inv (ok : PlanOk ops pr plan) (A : Nat → Bool) (hA : ∀ p ∈ plan, A p.1 = !p.2.1) : ∀ (fuel t : Nat) (done rest : List Pl) (pend : List Nat) (listed : Array Bool) (a c : Act) (w : World),
    Inv P ops G pr plan done rest pend listed a c w → fuel = pend.length + rest.length → (Region.linearise.go .any ops fuel t listed []).filter A = actsOf rest →
    wpOps P ops (QG G) (Region.linearise.go .any ops fuel t listed []) a w := by
  intro fuel
  induction fuel with
  | zero =>
    intro t done rest pend listed a c w I hn _
    obtain rfl : pend = [] := List.length_eq_zero_iff.1 (by omega)
    obtain rfl : rest = [] := List.length_eq_zero_iff.1 (by omega)
    have heq : a = c := by
      obtain ⟨at_, ad⟩ := a
      obtain ⟨ct, cd⟩ := c
      have h1 : at_ = ct := by
        apply Array.ext_getElem?
        intro t
        exact getq I.tsize (I.tmps t fun r hr => by cases hr)
      have h2 : ad = cd := I.defers
      rw [h1, h2]
    show QG G .normal a w
    rw [heq]; exact I.run
  | succ fuel ih =>
    intro t done rest pend listed a c w I0 hn0 hacts0
    obtain ⟨done, rest, pend, c, I, hhead, hn', ha'⟩ := aheadAll_acts ok rest done pend c I0
    have hn : fuel + 1 = pend.length + rest.length := by omega
    have hacts := hacts0.trans ha'.symm
    clear hn' hn0 I0 hacts0 ha'
    have hex : ∃ x ∈ plan, listed.getD x.1 false = false := by
      cases pend with
      | cons r l =>
        obtain ⟨q, hq, e, _⟩ := I.pin r (List.mem_cons_self ..)
        refine ⟨q, I.mem_done hq, ?_⟩
        cases hl : listed.getD q.1 false with
        | false => rfl
        | true => exact absurd (e ▸ List.mem_cons_self ..) ((I.isl q.1 (ok.lt q (I.mem_done hq))).1 hl).2
      | nil =>
        cases rest with
        | nil => simp at hn
        | cons p l =>
          have hp := I.mem_rest (p := p) (List.mem_cons_self ..)
          refine ⟨p, hp, ?_⟩
          cases hl : listed.getD p.1 false with
          | false => rfl
          | true =>
            obtain ⟨h1, _⟩ := (I.isl p.1 (ok.lt p hp)).1 hl
            obtain ⟨q, hq, e⟩ := List.mem_map.1 h1
            exact absurd e (I.disj ok hq (List.mem_cons_self ..))
    obtain ⟨i, hi0⟩ := ready_pick (ready_nonempty ok I.size hex) t
    have hi := List.mem_of_getElem? hi0
    rw [go_eq, hi0] at hacts ⊢
    dsimp only at hacts ⊢
    generalize hrl : (Region.ready .any ops listed).length = rl at hacts ⊢
    rw [wpOps_cons]
    obtain ⟨h1, h2, h3⟩ := mem_ready hi I.size
    have hedge : ∀ e ∈ edges (opAt ops i), e < ops.size := by
      intro e he
      obtain ⟨p, hp, rfl⟩ := List.mem_map.1 (ok.all i h1)
      obtain ⟨l, r, hcut⟩ := List.append_of_mem hp
      obtain ⟨q, hq, rfl⟩ := List.mem_map.1 (ok.topo l p r hcut e he)
      exact ok.lt q (by rw [hcut]; exact List.mem_append_left _ hq)
    have hready : ∀ j, j < ops.size → pr i j = true → listed.getD j false = true := by
      intro j hj hpr
      obtain ⟨e, he, h⟩ := ok.pr_ok i h1 j hj hpr
      rcases h with rfl | h
      · exact h3 e he
      · exact I.down e (hedge e he) (h3 e he) j hj h
    by_cases hip : i ∈ pend
    · obtain ⟨q, hq, e, hqf⟩ := I.pin i hip
      have hAi : A i = false := by rw [← e, hA q (I.mem_done hq), hqf]; rfl
      rw [List.filter_cons_of_neg (by simp [hAi])] at hacts
      refine I.catch ok hip hready fun a' I' => ih _ _ _ _ _ a' c w I' ?_ hacts
      rw [List.length_erase_of_mem hip]
      have : 0 < pend.length := List.length_pos_of_mem hip
      omega
    · have hir : i ∈ rest.map (·.1) := by
        have := ok.all i h1
        rw [I.cut, List.map_append, List.mem_append] at this
        refine this.resolve_left fun h => ?_
        rw [(I.isl i h1).2 ⟨h, hip⟩] at h2; cases h2
      obtain ⟨q, hq, rfl⟩ := List.mem_map.1 hir
      cases rest with
      | nil => cases hq
      | cons p l =>
        have hpf := hhead p l rfl
        by_cases hqf : q.2.1 = false
        · have hAq : A q.1 = true := by rw [hA q (I.mem_rest hq), hqf]; rfl
          rw [List.filter_cons_of_pos hAq, actsOf_cons_f hpf] at hacts
          obtain ⟨e1, e2⟩ := List.cons.inj hacts
          obtain rfl : q = p := uniq_of ok.nodup (I.mem_rest hq) (I.mem_rest (List.mem_cons_self ..)) e1
          refine I.step ok hpf hready fun a' c' w' I' => ih _ _ _ _ _ a' c' w' I' ?_ e2
          simp at hn; omega
        · exfalso
          have hqt : q.2.1 = true := by simpa using hqf
          rcases List.mem_cons.1 hq with rfl | hq'
          · exact hqf hpf
          obtain ⟨m, r, rfl⟩ := List.append_of_mem hq'
          obtain ⟨m1, k, m2, e, hk, _⟩ := last_acts m p hpf
          have hcut : plan = (done ++ m1) ++ k :: m2 ++ q :: r := by
            rw [I.cut]
            have : p :: (m ++ q :: r) = (p :: m) ++ q :: r := rfl
            rw [this, e]; simp
          obtain ⟨z, hz, hpr⟩ := ok.early (done ++ m1) k m2 q r hcut hk hqt
          obtain ⟨y, hy, rfl⟩ := List.mem_map.1 hz
          have hyr : y ∈ p :: (m ++ q :: r) := by
            have h5 : y ∈ p :: m := by rw [e]; exact List.mem_append_right _ hy
            rcases List.mem_cons.1 h5 with rfl | h5
            · exact List.mem_cons_self ..
            · exact List.mem_cons_of_mem _ (List.mem_append_left _ h5)
          have hyl : y.1 < ops.size := ok.lt y (I.mem_rest hyr)
          have hyt := hready y.1 hyl hpr
          obtain ⟨h5, _⟩ := (I.isl y.1 hyl).1 hyt
          obtain ⟨x, hx, e'⟩ := List.mem_map.1 h5
          exact I.disj ok hx hyr e'

theorem inv_start (_ok : PlanOk ops pr plan) (hfit : ∀ i, i < ops.size → ∀ d, (opAt ops i).dst = some d → d < a.tmps.size) (h : CR P ops G (plan.map (stp ops)) a w) :
    Inv P ops G pr plan [] plan [] (Array.replicate ops.size false) a a w := by
  refine ⟨rfl, by simp, fun i hi => ?_, fun r hr => (by cases hr), List.nodup_nil, fun i hi hl => ?_, rfl, fun _ _ => rfl, rfl, hfit, fun r hr => (by cases hr), h⟩
  · simp [Array.getD, hi]
  · simp [Array.getD, hi] at hl


/-! ### the orders in which what acts may come -/
theorem lin_unlisted : ∀ (fuel t : Nat) (listed : Array Bool), listed.size = ops.size → ∀ i ∈ Region.linearise.go .any ops fuel t listed [], i < ops.size ∧ listed.getD i false = false := by
  intro fuel
  induction fuel with
  | zero => intro t listed _ i hi; simp [Region.linearise.go] at hi
  | succ fuel ih =>
    intro t listed hs i hi
    rw [go_eq] at hi
    split at hi
    · rename_i x hx
      obtain ⟨h1, h2, _⟩ := mem_ready (List.mem_of_getElem? hx) hs
      rcases List.mem_cons.1 hi with rfl | hi
      · exact ⟨h1, h2⟩
      · obtain ⟨h3, h4⟩ := ih _ _ (by simp [hs]) i hi
        rw [getD_set _ _ _ (by rw [hs]; exact h1)] at h4
        split at h4
        · cases h4
        · exact ⟨h3, h4⟩
    · cases hi

theorem lin_order (ok : PlanOk ops pr plan) : ∀ (fuel t : Nat) (listed : Array Bool), listed.size = ops.size → (∀ i, i < ops.size → listed.getD i false = true → ∀ j, j < ops.size → pr i j = true → listed.getD j false = true) →
    (Region.linearise.go .any ops fuel t listed []).Pairwise (fun i j => pr i j = false) ∧ (Region.linearise.go .any ops fuel t listed []).Nodup := by
  intro fuel
  induction fuel with
  | zero => intro t listed _ _; simp [Region.linearise.go]
  | succ fuel ih =>
    intro t listed hs hdown
    rw [go_eq]
    split
    · rename_i x hx
      obtain ⟨h1, h2, h3⟩ := mem_ready (List.mem_of_getElem? hx) hs
      have hready : ∀ j, j < ops.size → pr x j = true → listed.getD j false = true := by
        intro j hj hpr
        obtain ⟨e, he, h⟩ := ok.pr_ok x h1 j hj hpr
        rcases h with rfl | h
        · exact h3 e he
        · have : e < ops.size := by
            obtain ⟨p, hp, rfl⟩ := List.mem_map.1 (ok.all x h1)
            obtain ⟨l, r, hcut⟩ := List.append_of_mem hp
            obtain ⟨q, hq, rfl⟩ := List.mem_map.1 (ok.topo l p r hcut e he)
            exact ok.lt q (by rw [hcut]; exact List.mem_append_left _ hq)
          exact hdown e this (h3 e he) j hj h
      have hun := lin_unlisted (ops := ops) fuel (t / (Region.ready .any ops listed).length) (listed.setIfInBounds x true) (by simp [hs])
      obtain ⟨h4, h5⟩ := ih (t / (Region.ready .any ops listed).length) (listed.setIfInBounds x true) (by simp [hs]) (fun i hi hl j hj hpr => by
        rw [getD_set _ _ _ (by rw [hs]; exact h1)] at hl ⊢
        by_cases hxj : x = j
        · rw [if_pos hxj]
        · rw [if_neg hxj]
          by_cases hxi : x = i
          · subst hxi; exact hready j hj hpr
          · rw [if_neg hxi] at hl; exact hdown i hi hl j hj hpr)
      refine ⟨List.pairwise_cons.2 ⟨fun j hj => ?_, h4⟩, List.nodup_cons.2 ⟨fun hx' => ?_, h5⟩⟩
      · obtain ⟨h6, h7⟩ := hun j hj
        rw [getD_set _ _ _ (by rw [hs]; exact h1)] at h7
        split at h7
        · cases h7
        · cases hp : pr x j with
          | false => rfl
          | true => rw [hready j h6 hp] at h7; cases h7
      · obtain ⟨h6, h7⟩ := hun x hx'
        rw [getD_set _ _ _ (by rw [hs]; exact h1), if_pos rfl] at h7; cases h7
    · exact ⟨.nil, List.nodup_nil⟩

theorem lin_all (ok : PlanOk ops pr plan) : ∀ (fuel t : Nat) (listed : Array Bool), listed.size = ops.size → (plan.filter fun p => !listed.getD p.1 false).length ≤ fuel → ∀ i, i < ops.size → listed.getD i false = false →
    i ∈ Region.linearise.go .any ops fuel t listed [] := by
  intro fuel
  induction fuel with
  | zero =>
    intro t listed hs hn i hi hl
    exfalso
    obtain ⟨p, hp, rfl⟩ := List.mem_map.1 (ok.all i hi)
    have : p ∈ plan.filter fun p => !listed.getD p.1 false := List.mem_filter.2 ⟨hp, by simp [hl]⟩
    have := List.length_pos_of_mem this
    omega
  | succ fuel ih =>
    intro t listed hs hn i hi hl
    obtain ⟨p, hp, rfl⟩ := List.mem_map.1 (ok.all i hi)
    obtain ⟨x, hx⟩ := ready_pick (ready_nonempty (listed := listed) ok hs ⟨p, hp, hl⟩) t
    obtain ⟨h1, h2, _⟩ := mem_ready (List.mem_of_getElem? hx) hs
    rw [go_eq, hx]
    by_cases e : x = p.1
    · rw [e]; exact List.mem_cons_self ..
    · refine List.mem_cons_of_mem _ (ih _ _ (by simp [hs]) ?_ p.1 hi ?_)
      · have hsub : (plan.filter fun p => !(listed.setIfInBounds x true).getD p.1 false) = ((plan.filter fun p => !listed.getD p.1 false).filter fun p => !decide (x = p.1)) := by
          rw [List.filter_filter]
          apply List.filter_congr
          intro q _
          rw [getD_set _ _ _ (by rw [hs]; exact h1)]
          by_cases e' : x = q.1 <;> simp [e']
        rw [hsub]
        obtain ⟨y, hy, rfl⟩ := List.mem_map.1 (ok.all x h1)
        have : ((plan.filter fun p => !listed.getD p.1 false).filter fun p => !decide (y.1 = p.1)).length < (plan.filter fun p => !listed.getD p.1 false).length :=
          List.length_filter_lt_length_iff_exists.2 ⟨y, List.mem_filter.2 ⟨hy, by simp [h2]⟩, by simp⟩
        omega
      · rw [getD_set _ _ _ (by rw [hs]; exact h1), if_neg e]; exact hl

/-- All orders of some numbers that keep what must stand ahead ahead. -/
def lins (pr : Nat → Nat → Bool) : Nat → List Nat → List (List Nat)
  | 0, _ => [[]]
  | n + 1, rem => match rem with
    | [] => [[]]
    | _ => rem.flatMap fun i => if rem.all fun j => j == i || !pr i j then (lins pr n (rem.erase i)).map (i :: ·) else []
theorem mem_lins : ∀ (n : Nat) (rem l : List Nat), l.Nodup → rem.Nodup → (∀ x, x ∈ l ↔ x ∈ rem) → rem.length ≤ n → l.Pairwise (fun i j => pr i j = false) → l ∈ lins pr n rem := by
  intro n
  induction n with
  | zero =>
    intro rem l _ _ hm hn _
    obtain rfl : rem = [] := List.length_eq_zero_iff.1 (by omega)
    have : l = [] := List.eq_nil_iff_forall_not_mem.2 fun x hx => by have := (hm x).1 hx; cases this
    simp [lins, this]
  | succ n ih =>
    intro rem l hl hr hm hn hp
    cases l with
    | nil =>
      have : rem = [] := List.eq_nil_iff_forall_not_mem.2 fun x hx => by have := (hm x).2 hx; cases this
      subst this
      simp [lins]
    | cons i l =>
      have hi : i ∈ rem := (hm i).1 (List.mem_cons_self ..)
      have hne : rem ≠ [] := List.ne_nil_of_mem hi
      obtain ⟨h1, h2⟩ := List.nodup_cons.1 hl
      obtain ⟨h3, h4⟩ := List.pairwise_cons.1 hp
      have : l ∈ lins pr n (rem.erase i) := by
        refine ih _ _ h2 (hr.erase _) (fun x => ?_) ?_ h4
        · rw [List.Nodup.mem_erase_iff hr, ← hm x, List.mem_cons]
          constructor
          · exact fun h => ⟨fun e => h1 (e ▸ h), .inr h⟩
          · exact fun ⟨h, h'⟩ => h'.resolve_left h
        · rw [List.length_erase_of_mem hi]; omega
      unfold lins
      cases rem with
      | nil => exact absurd rfl hne
      | cons y ys =>
        dsimp only
        refine List.mem_flatMap.2 ⟨i, hi, ?_⟩
        rw [if_pos (List.all_eq_true.2 fun j hj => ?_)]
        · exact List.mem_map.2 ⟨l, this, rfl⟩
        · rcases List.mem_cons.1 ((hm j).2 hj) with rfl | hj'
          · simp
          · simp [h3 j hj']

theorem wpOps_of_plans {plans : List (List Pl)} {acts : List Nat} (hne : plans ≠ []) (ok : ∀ p ∈ plans, PlanOk ops pr p) (hlen : ∀ p ∈ plans, p.length = ops.size) (hfl : ∀ p ∈ plans, ∀ x ∈ p, acts.contains x.1 = !x.2.1) (hacts : acts.Nodup) (hal : ∀ i ∈ acts, i < ops.size)
    (hcov : ∀ l ∈ lins pr acts.length acts, ∃ p ∈ plans, actsOf p = l) (hfit : ∀ i, i < ops.size → ∀ d, (opAt ops i).dst = some d → d < a.tmps.size) (h : ∀ p ∈ plans, CR P ops G (p.map (stp ops)) a w) (t : Nat) :
    wpOps P ops (QG G) (Region.linearise .any ops t) a w := by
  obtain ⟨p0, hp0⟩ := List.exists_mem_of_ne_nil _ hne
  have hsz : (Array.replicate ops.size false).size = ops.size := by simp
  obtain ⟨ho, hnd⟩ := lin_order (ok p0 hp0) ops.size t (Array.replicate ops.size false) hsz (fun i hi hl => by simp [Array.getD, hi] at hl)
  have hall : ∀ i, i < ops.size → i ∈ Region.linearise.go .any ops ops.size t (Array.replicate ops.size false) [] := fun i hi =>
    lin_all (ok p0 hp0) ops.size t _ hsz (Nat.le_trans (List.length_filter_le ..) (by rw [hlen p0 hp0]; exact Nat.le_refl _)) i hi (by simp [Array.getD, hi])
  have hmem := hcov ((Region.linearise.go .any ops ops.size t (Array.replicate ops.size false) []).filter acts.contains) (mem_lins _ _ _ (hnd.filter _) hacts (fun x => by
    rw [List.mem_filter]
    constructor
    · exact fun hx => by simpa using hx.2
    · exact fun hx => ⟨hall x (hal x hx), by simpa using hx⟩) (Nat.le_refl _) (ho.filter _))
  obtain ⟨p, hp, he⟩ := hmem
  exact wpOps_of_inv (ok p hp) acts.contains (fun x hx => hfl p hp x hx) ops.size t [] p [] _ a a w (inv_start (ok p hp) hfit (h p hp)) (by simp [hlen p hp]) he.symm
end
end Go.Proofs.YtaeefjcbmkiiaaaGreatDoor.Sl
/- A plan's closed check; the judgement of a walk: from what is known of temporaries and memory, the rest of the body comes to what is said. -/
namespace Go.Proofs.YtaeefjcbmkiiaaaGreatDoor.Sl
open Go Go.RowKit

def sufOk (pr : Nat → Nat → Bool) (i : Nat) : List Pl → Bool
  | [] => true
  | k :: m => (k.2.1 || (k :: m).any fun q => pr i q.1) && sufOk pr i m
def okAt (ops : Array Oper) (pr : Nat → Nat → Bool) (l : List Pl) (p : Pl) : Bool :=
  ((edges (opAt ops p.1)).all fun e => l.any fun q => q.1 == e) &&
  (if p.2.1 then sufOk pr p.1 l else
    l.all fun q => if q.2.1 then (p.2.2.contains q.1 && (match (opAt ops p.1).dst with | some d => !((opAt ops q.1).looksAt ops).contains d | none => true)) || pr p.1 q.1 else true)
def scan (ops : Array Oper) (pr : Nat → Nat → Bool) : List Pl → List Pl → Bool
  | _, [] => true
  | l, p :: r => okAt ops pr l p && scan ops pr (l ++ [p]) r
def planB (ops : Array Oper) (pr : Nat → Nat → Bool) (plan : List Pl) : Bool :=
  let n := ops.size
  plan.length == n && (List.range n).all (fun i => plan.any fun p => p.1 == i) && plan.all (fun p => decide (p.1 < n)) && decide ((plan.map (·.1)).Nodup) &&
  (List.range n).all (fun i => !isSelect (opAt ops i).op) &&
  (List.range n).all (fun i => match (opAt ops i).dst with | some d => (List.range n).all (fun j => i == j || (opAt ops j).dst != some d) | none => true) &&
  (List.range n).all (fun i => (List.range n).all fun j => !pr i j || (edges (opAt ops i)).any fun e => e == j || pr e j) &&
  plan.all (fun p => !p.2.1 || (opAt ops p.1).dst.isSome) &&
  plan.all (fun p => !p.2.1 || match (opAt ops p.1).dst with | some d => (List.range n).all (fun j => !((opAt ops j).looksAt ops).contains d || pr j p.1) | none => true) &&
  scan ops pr [] plan

theorem scan_spec {ops : Array Oper} {pr : Nat → Nat → Bool} : ∀ (rest l0 : List Pl), scan ops pr l0 rest = true → ∀ l p r, rest = l ++ p :: r → okAt ops pr (l0 ++ l) p = true
  | [], _, _, l, p, r, h => by simp at h
  | x :: rest, l0, hs, l, p, r, h => by
    simp only [scan, Bool.and_eq_true] at hs
    cases l with
    | nil =>
      simp only [List.nil_append, List.cons.injEq] at h
      obtain ⟨rfl, rfl⟩ := h
      simpa using hs.1
    | cons y l =>
      simp only [List.cons_append, List.cons.injEq] at h
      obtain ⟨rfl, rfl⟩ := h
      have := scan_spec _ _ hs.2 l p r rfl
      simpa using this
theorem sufOk_spec {pr : Nat → Nat → Bool} {i : Nat} : ∀ (l' : List Pl), sufOk pr i l' = true → ∀ l k m, l' = l ++ k :: m → k.2.1 = false → ∃ q ∈ (k :: m).map (·.1), pr i q = true
  | [], _, l, k, m, h, _ => by simp at h
  | x :: l', hs, l, k, m, h, hk => by
    simp only [sufOk, Bool.and_eq_true] at hs
    cases l with
    | nil =>
      simp only [List.nil_append, List.cons.injEq] at h
      obtain ⟨rfl, rfl⟩ := h
      obtain ⟨h1, _⟩ := hs
      rw [hk, Bool.false_or] at h1
      obtain ⟨q, hq, hp⟩ := List.any_eq_true.1 h1
      exact ⟨q.1, List.mem_map.2 ⟨q, hq, rfl⟩, hp⟩
    | cons y l =>
      simp only [List.cons_append, List.cons.injEq] at h
      obtain ⟨rfl, rfl⟩ := h
      exact sufOk_spec _ hs.2 l k m rfl hk

theorem planOk_of {ops : Array Oper} {pr : Nat → Nat → Bool} {plan : List Pl} (h : planB ops pr plan = true) : PlanOk ops pr plan ∧ plan.length = ops.size := by
  simp only [planB, Bool.and_eq_true, List.all_eq_true, List.mem_range, decide_eq_true_eq, beq_iff_eq] at h
  obtain ⟨⟨⟨⟨⟨⟨⟨⟨⟨hlen, hall⟩, hlt⟩, hnd⟩, hsel⟩, hdst⟩, hpr⟩, hfd⟩, hreads⟩, hscan⟩ := h
  have hat : ∀ l p r, plan = l ++ p :: r → okAt ops pr l p = true := fun l p r e => by simpa using scan_spec _ _ hscan l p r e
  refine ⟨⟨fun i hi => ?_, hlt, hnd, fun i hi => by simpa using hsel i hi, fun i hi j hj hne d hd h => ?_, fun i hi j hj hp => ?_, fun p hp hf => ?_, fun p hp hf j hj d hd hmem => ?_, fun l p r e x hx => ?_, fun l k m p r e hk hp => ?_, fun l p m k r e hp hk => ?_⟩, hlen⟩
  · obtain ⟨p, hp, he⟩ := List.any_eq_true.1 (hall i hi)
    exact List.mem_map.2 ⟨p, hp, by simpa using he⟩
  · have := hdst i hi
    rw [hd] at this
    have h2 := List.all_eq_true.1 this j (List.mem_range.2 hj)
    simp [hne, h] at h2
  · have := hpr i hi j hj
    rw [hp] at this
    simp only [Bool.not_true, Bool.false_or] at this
    obtain ⟨e, he, h2⟩ := List.any_eq_true.1 this
    exact ⟨e, he, by simpa using h2⟩
  · have := hfd p hp
    rw [hf] at this; simpa using this
  · have := hreads p hp
    rw [hf, hd] at this
    simp only [Bool.not_true, Bool.false_or] at this
    have h2 := List.all_eq_true.1 this j (List.mem_range.2 hj)
    simpa [hmem] using h2
  · have := hat l p r e
    simp only [okAt, Bool.and_eq_true, List.all_eq_true] at this
    obtain ⟨q, hq, h2⟩ := List.any_eq_true.1 (this.1 x hx)
    exact List.mem_map.2 ⟨q, hq, by simpa using h2⟩
  · have := hat (l ++ k :: m) p r (by simpa using e)
    simp only [okAt, Bool.and_eq_true, hp, if_true] at this
    exact sufOk_spec _ this.2 l k m rfl hk
  · have := hat (l ++ p :: m) k r (by simpa using e)
    simp only [okAt, Bool.and_eq_true, hk, Bool.false_eq_true, if_false, List.all_eq_true] at this
    have h2 := this.2 p (by simp)
    simp only [hp, if_true, Bool.or_eq_true, Bool.and_eq_true] at h2
    rcases h2 with ⟨h3, h4⟩ | h3
    · left
      refine ⟨by simpa using h3, fun d hd => ?_⟩
      rw [hd] at h4
      simpa using h4
    · exact .inr h3

/-! ### the judgement -/
/-- What is known of the temporaries: the first row of a number counts. -/
abbrev St := List (Nat × Value)
def look : St → Nat → Option Value
  | [], _ => none
  | (t, v) :: st, x => cond (Nat.beq t x) (some v) (look st x)

/-- What a body is walked for. -/
structure Ctx where
  P : Program
  B : World
  F : Assn
  f : FuncId
  n : Nat
  fn : Func
  Q : Value → List Assn → Prop
  hf : P.funcs[f]? = some fn
  hm : P.follows .mixedOrders = true

/-- What is said of the call: it returns; what it returns and what memory holds is as Q says. -/
def RQ (B : World) (F : Assn) (Q : Value → List Assn → Prop) (e : Ending) (w' : World) : Prop := ∃ v Γ', e = .returned v ∧ Q v Γ' ∧ Sat B F Γ' w'
def Ctx.R (c : Ctx) : Ending → World → Prop := RQ c.B c.F c.Q

def Agree (n : Nat) (st : St) (a : Act) : Prop := a.defers = [] ∧ n ≤ a.tmps.size ∧ ∀ t v, look st t = some v → a.tmps.getD t undef = v

def Arr (c : Ctx) (b : Frame) (cs : List Frame) (k : List Item) (a : Act) (w : World) : Prop :=
  ∃ e w' fr, c.R e w' ∧ Comes c.P (lone (b.at a k) cs w) (lone fr cs w') e ∧ fr.fn = c.f ∧ fr.leaving c.P w' e

/-- From here the rest comes to what is said. -/
def J (c : Ctx) (k : List Item) (st : St) (Γ : List Assn) : Prop :=
  ∀ (b : Frame) (cs : List Frame) (a : Act) (w : World), b.fn = c.f → b.kind = .normal → Agree c.n st a → Sat c.B c.F Γ w → Arr c b cs k a w
/-- The same, in the middle of a region. -/
def JR (c : Ctx) (ops : Array Oper) (l : List Stp) (k : List Item) (st : St) (Γ : List Assn) : Prop :=
  ∀ (b : Frame) (cs : List Frame) (a : Act) (w : World), b.fn = c.f → b.kind = .normal → Agree c.n st a → Sat c.B c.F Γ w → CR c.P ops (Arr c b cs k) l a w

section
variable {c : Ctx} {k : List Item} {st : St} {Γ : List Assn}

theorem Arr.of_step {b : Frame} {cs : List Frame} {k k' : List Item} {a a' : Act} {w w' : World} (h : step c.P (lone (b.at a k) cs w) = .next (lone (b.at a' k') cs w')) (hh : Arr c b cs k' a' w') : Arr c b cs k a w :=
  let ⟨e, w1, fr, hR, hc, h1, h2⟩ := hh; ⟨e, w1, fr, hR, hc.of_steps (.one h), h1, h2⟩
theorem Arr.of_steps {b : Frame} {cs : List Frame} {k k' : List Item} {a a' : Act} {w w' : World} (h : Steps c.P (lone (b.at a k) cs w) (lone (b.at a' k') cs w')) (hh : Arr c b cs k' a' w') : Arr c b cs k a w :=
  let ⟨e, w1, fr, hR, hc, h1, h2⟩ := hh; ⟨e, w1, fr, hR, hc.of_steps h, h1, h2⟩

theorem J_seq {x y : Code} (h : J c (.code x :: .code y :: k) st Γ) : J c (.code (.seq x y) :: k) st Γ :=
  fun b cs a w h1 h2 h3 h4 => Arr.of_step step_seq (h b cs a w h1 h2 h3 h4)
theorem J_skip (h : J c k st Γ) : J c (.code .skip :: k) st Γ :=
  fun b cs a w h1 h2 h3 h4 => Arr.of_step step_skip (h b cs a w h1 h2 h3 h4)
theorem J_label {l : Nat} (h : J c k st Γ) : J c (.code (.label l) :: k) st Γ :=
  fun b cs a w h1 h2 h3 h4 => Arr.of_step step_label (h b cs a w h1 h2 h3 h4)
theorem J_inBlock {id : Nat} (h : J c k st Γ) : J c (.inBlock id :: k) st Γ :=
  fun b cs a w h1 h2 h3 h4 => Arr.of_step step_inBlock (h b cs a w h1 h2 h3 h4)
theorem J_block {id : Nat} {x : Code} (h : J c (.code x :: .inBlock id :: k) st Γ) : J c (.code (.block id x) :: k) st Γ :=
  fun b cs a w h1 h2 h3 h4 => Arr.of_step step_block (h b cs a w h1 h2 h3 h4)
theorem J_exit {id : Nat} {k' : List Item} (hk : exitTo id k = some k') (h : J c k' st Γ) : J c (.code (.exit id) :: k) st Γ :=
  fun b cs a w h1 h2 h3 h4 => Arr.of_step (step_exit hk) (h b cs a w h1 h2 h3 h4)

/-- An operand's value. -/
def ev (st : St) : Operand → Option Value
  | .tmp t => look st t
  | .const v => some v
  | .global g => some (.pointer (some ⟨g, 0, none⟩))
  | .func f => some (.func (.func f) #[] #[])
theorem ev_eval {n : Nat} {st : St} {a : Act} (h : Agree n st a) {x : Operand} {v : Value} (hv : ev st x = some v) : a.eval x = v := by
  cases x with
  | tmp t => exact h.2.2 t v hv
  | const v => cases hv; rfl
  | global g => cases hv; rfl
  | func f => cases hv; rfl

theorem J_cond {x : Operand} {y z : Code} {t : Bool} (hv : ev st x = some (.bool t)) (ht : t = true → J c (.code y :: k) st Γ) (hf : t = false → J c (.code z :: k) st Γ) :
    J c (.code (.cond x y z) :: k) st Γ := by
  intro b cs a w h1 h2 h3 h4
  refine Arr.of_step (step_cond (ev_eval h3 hv)) ?_
  cases t
  · exact hf rfl b cs a w h1 h2 h3 h4
  · exact ht rfl b cs a w h1 h2 h3 h4
theorem J_cond_t {x : Operand} {y z : Code} (hv : ev st x = some (.bool true)) (ht : J c (.code y :: k) st Γ) : J c (.code (.cond x y z) :: k) st Γ :=
  J_cond hv (fun _ => ht) (fun h => by cases h)
theorem J_cond_f {x : Operand} {y z : Code} (hv : ev st x = some (.bool false)) (hf : J c (.code z :: k) st Γ) : J c (.code (.cond x y z) :: k) st Γ :=
  J_cond hv (fun h => by cases h) (fun _ => hf)
theorem J_cond_d {x : Operand} {y z : Code} {p : Prop} {_ : Decidable p} (hv : ev st x = some (.bool (decide p))) (ht : p → J c (.code y :: k) st Γ) (hf : ¬ p → J c (.code z :: k) st Γ) :
    J c (.code (.cond x y z) :: k) st Γ :=
  J_cond hv (fun h => ht (of_decide_eq_true h)) (fun h => hf (of_decide_eq_false h))
theorem J_cond_nd {x : Operand} {y z : Code} {p : Prop} {_ : Decidable p} (hv : ev st x = some (.bool (!decide p))) (ht : ¬ p → J c (.code y :: k) st Γ) (hf : p → J c (.code z :: k) st Γ) :
    J c (.code (.cond x y z) :: k) st Γ :=
  J_cond hv (fun h => ht (of_decide_eq_false (by simpa using h))) (fun h => hf (of_decide_eq_true (by simpa using h)))

/-- Less is known; memory in another order. -/
def Sub (st st' : St) : Prop := ∀ t v, look st' t = some v → look st t = some v
theorem Sub.refl (st : St) : Sub st st := fun _ _ h => h
theorem Sub.nil {st : St} : Sub st [] := fun _ _ h => by cases h
theorem Sub.cons {st st' : St} {t : Nat} {v : Value} (h : look st t = some v) (hs : Sub st st') : Sub st ((t, v) :: st') := by
  intro x u hx
  unfold look at hx
  cases e : Nat.beq t x with
  | true => rw [e] at hx; cases hx; rw [← Nat.eq_of_beq_eq_true e]; exact h
  | false => rw [e] at hx; exact hs x u hx
theorem sat_left : ∀ {Γ' R : List Assn} {r h : Hp}, sat (Γ' ++ R) r h → sat Γ' r h
  | [], _, _, _, _ => trivial
  | _ :: _, _, _, _, hs => sat_congr_tail (fun _ => sat_left) hs
theorem J_weaken {st' : St} {Γ' R : List Assn} (h : J c k st' Γ') (hs : Sub st st') (hp : Split Γ Γ' R) : J c k st Γ := by
  intro b cs a w h1 h2 h3 h4
  refine h b cs a w h1 h2 ⟨h3.1, h3.2.1, fun t v hv => h3.2.2 t v (hs t v hv)⟩ ?_
  exact (h4.perm hp.perm).imp fun m hm => sat_left hm


/-! ### loops -/
/-- A loop, with a relation that holds at each round's head (x: what it speaks of) and a measure that each round lowers. -/
theorem J_loop {α : Type} {body : Code} (S : α → St) (G : α → List Assn) (pr : α → Prop) (μ : α → Nat) (x0 : α) (h0 : pr x0) {R : List Assn} (hs : Sub st (S x0)) (hp : Split Γ (G x0) R)
    (round : ∀ x, pr x → (∀ x', pr x' → μ x' < μ x → J c (.inLoop body :: k) (S x') (G x')) → J c (.code body :: .inLoop body :: k) (S x) (G x)) :
    J c (.code (.loop body) :: k) st Γ := by
  have key : ∀ n x, μ x = n → pr x → J c (.code body :: .inLoop body :: k) (S x) (G x) := by
    intro n
    induction n using Nat.strongRecOn with
    | _ n ih =>
      intro x hx hpx
      refine round x hpx fun x' hpx' hlt => ?_
      have := ih (μ x') (hx ▸ hlt) x' rfl hpx'
      exact fun b cs a w h1 h2 h3 h4 => Arr.of_step step_inLoop (this b cs a w h1 h2 h3 h4)
  exact J_weaken (fun b cs a w h1 h2 h3 h4 => Arr.of_step step_loop (key _ x0 rfl h0 b cs a w h1 h2 h3 h4)) hs hp

/-! ### the end -/
inductive ResL (P : Program) (st : St) (S : World → Prop) : List ResultVar → List Value → Prop
  | nil : ResL P st S [] []
  | tmp {t : Tmp} {v : Value} {rs : List ResultVar} {vs : List Value} : look st t = some v → ResL P st S rs vs → ResL P st S (.tmp t :: rs) (v :: vs)
  | cell {t : Tmp} {T : TypeId} {ad : Addr} {v : Value} {rs : List ResultVar} {vs : List Value} : look st t = some (.pointer (some ad)) → (∀ w, S w → (loadVar T ad).run P w = .ok v w) → ResL P st S rs vs → ResL P st S (.cell t T :: rs) (v :: vs)
def tupleOf : List Value → Value
  | [v] => v
  | vs => .tuple vs.toArray


theorem run_resVars {P : Program} {w : World} {S : World → Prop} (hS : S w) {n : Nat} {st : St} {a : Act} (h : Agree n st a) : ∀ {rs : List ResultVar} {vs : List Value}, ResL P st S rs vs →
    (rs.mapM fun (r : ResultVar) => match r with
      | .tmp t => (Pure.pure (a.tmps.getD t undef) : Sem Value)
      | .cell x t => do loadVar t (← asAddr (a.tmps.getD x undef))).run P w = .ok vs w := by
  intro rs vs hr
  induction hr with
  | nil => rfl
  | @tmp t v rs vs hl _ ih =>
    rw [List.mapM_cons, Sem.run_bind]
    simp only [h.2.2 t v hl, Sem.run_pure, Result.andThen_ok, Sem.run_bind, ih]
  | @cell t T ad v rs vs hl hld _ ih =>
    have ha : asAddr (a.tmps.getD t undef) = Pure.pure ad := by rw [h.2.2 t _ hl]; rfl
    rw [List.mapM_cons, Sem.run_bind]
    simp only [ha, Sem.run_bind, Sem.run_pure, Result.andThen_ok, hld w hS, ih]

theorem run_results {P : Program} {fn : Func} {w : World} {S : World → Prop} (hS : S w) {n : Nat} {st : St} {a : Act} (h : Agree n st a) {rs : List ResultVar} {vs : List Value} (hr : fn.results = ⟨rs⟩) (hl : ResL P st S rs vs) :
    (results fn a.tmps).run P w = .ok (tupleOf vs) w := by
  have hr' : fn.results = rs.toArray := hr
  unfold results
  rw [hr']
  have hm := run_resVars hS h hl
  rw [Sem.run_bind, List.mapM_toArray, Sem.run_map]
  erw [hm]
  simp only [Result.andThen_ok]
  cases vs with
  | nil => rfl
  | cons v vs =>
    cases vs with
    | nil => rfl
    | cons u vs => rfl

theorem J_ret {rs : List ResultVar} {vs : List Value} {Γ' R : List Assn} (hr : c.fn.results = ⟨rs⟩) (hl : ResL c.P st (Sat c.B c.F Γ) rs vs) (hQ : c.Q (tupleOf vs) Γ') (hs : Split Γ Γ' R) : J c (.code .ret :: k) st Γ := by
  intro b cs a w h1 h2 h3 h4
  refine ⟨.returned (tupleOf vs), w, { b.at a (.code .ret :: k) with mode := .returning }, ⟨_, Γ', rfl, hQ, (h4.perm hs.perm).imp fun m hm => sat_left hm⟩, .one step_ret, h1, rfl, h3.1, h2, c.fn, ?_, run_results h4 h3 hr hl⟩
  show c.P.funcs[b.fn]? = some c.fn
  rw [h1]; exact c.hf
theorem J_end {rs : List ResultVar} {vs : List Value} {Γ' R : List Assn} (hr : c.fn.results = ⟨rs⟩) (hl : ResL c.P st (Sat c.B c.F Γ) rs vs) (hQ : c.Q (tupleOf vs) Γ') (hs : Split Γ Γ' R) : J c [] st Γ := by
  intro b cs a w h1 h2 h3 h4
  refine ⟨.returned (tupleOf vs), w, { b.at a [] with mode := .returning }, ⟨_, Γ', rfl, hQ, (h4.perm hs.perm).imp fun m hm => sat_left hm⟩, .one step_end, h1, rfl, h3.1, h2, c.fn, ?_, run_results h4 h3 hr hl⟩
  show c.P.funcs[b.fn]? = some c.fn
  rw [h1]; exact c.hf

/-! ### the begin: what a function's contract says -/
/-- CALLED WITH THESE VALUES WHERE MEMORY HOLDS 'Pre' (AND WHATEVER ELSE): it returns; Q says what, and what memory holds behind it; whatever else was held is held still. -/
def Tr (P : Program) (f : FuncId) (args : List Value) (Pre : List Assn) (Q : Value → List Assn → Prop) : Prop :=
  ∀ (B : World) (F : Assn) (w : World), Sat B F Pre w → Calls P f args.toArray w (RQ B F Q)

def argSt : Nat → List Value → St
  | _, [] => []
  | i, v :: vs => (i, v) :: argSt (i + 1) vs
theorem look_argSt : ∀ (vs : List Value) (i t : Nat) (v : Value), look (argSt i vs) t = some v → i ≤ t ∧ vs[t - i]? = some v
  | [], _, _, _, h => by cases h
  | u :: vs, i, t, v, h => by
    unfold argSt look at h
    cases e : Nat.beq i t with
    | true =>
      rw [e] at h
      have := Nat.eq_of_beq_eq_true e
      subst this
      simpa using h
    | false =>
      rw [e] at h
      obtain ⟨h1, h2⟩ := look_argSt vs (i + 1) t v h
      refine ⟨by omega, ?_⟩
      rw [show t - i = (t - (i + 1)) + 1 by omega]
      simpa using h2

theorem Tr_of_J {P : Program} {f : FuncId} {fn : Func} {args : List Value} {Pre : List Assn} {Q : Value → List Assn → Prop} {body : Code} {n : Nat} (hf : P.funcs[f]? = some fn) (hm : P.follows .mixedOrders = true) (hb : fn.body = some body) (hn : fn.ntmps = n)
    (ha : args.length ≤ n) (h : ∀ B F, J ⟨P, B, F, f, n, fn, Q, hf, hm⟩ [.code body] (argSt 0 args) Pre) : Tr P f args Pre Q := by
  intro B F w hS cs
  let b : Frame := { (default : Frame) with fn := f, kind := .normal }
  have henter : Frame.enter P f args.toArray .normal = b.at { tmps := args.toArray ++ Array.replicate (fn.ntmps - args.toArray.size) undef, defers := [] } [.code body] := by
    simp [Frame.enter, Frame.at, hf, hb, b]
  have := h B F b cs { tmps := args.toArray ++ Array.replicate (fn.ntmps - args.toArray.size) undef, defers := [] } w rfl rfl ⟨rfl, by simp [hn]; omega, fun t v hv => ?_⟩ hS
  · obtain ⟨e, w', fr, h1, h2, h3, h4⟩ := this
    rw [← henter] at h2
    exact ⟨e, w', fr, h1, h2, h3, h4⟩
  · obtain ⟨_, h2⟩ := look_argSt args 0 t v hv
    rw [Nat.sub_zero] at h2
    have ht : t < args.length := by
      rcases Nat.lt_or_ge t args.length with h | h
      · exact h
      · rw [List.getElem?_eq_none h] at h2; cases h2
    have h3 : (args.toArray ++ Array.replicate (fn.ntmps - args.toArray.size) undef)[t]? = some v := by
      rw [Array.getElem?_append_left (by simpa using ht)]; simpa using h2
    rw [Array.getD_eq_getD_getElem?, h3]; rfl

theorem Tr.mono {P : Program} {f : FuncId} {args : List Value} {Pre : List Assn} {Q Q' : Value → List Assn → Prop} (h : Tr P f args Pre Q) (hq : ∀ v Γ, Q v Γ → ∃ Γ' R, Q' v Γ' ∧ Split Γ Γ' R) : Tr P f args Pre Q' :=
  fun B F w hS => (h B F w hS).mono fun _ _ ⟨v, Γ', he, hQ, hS'⟩ => let ⟨Γ2, _, hq', hs⟩ := hq v Γ' hQ; ⟨v, Γ2, he, hq', (hS'.perm hs.perm).imp fun _ hm => sat_left hm⟩

/-! ### regions -/
/-- What must be readable still, then on. -/
def JS (c : Ctx) (ops : Array Oper) (rs : List Oper) (l : List Stp) (k : List Item) (st : St) (Γ : List Assn) : Prop :=
  ∀ (b : Frame) (cs : List Frame) (a : Act) (w : World), b.fn = c.f → b.kind = .normal → Agree c.n st a → Sat c.B c.F Γ w → (∀ r ∈ rs, Stable c.P ops r a w) ∧ CR c.P ops (Arr c b cs k) l a w

theorem J_region {id : Nat} {ops : Array Oper} (h : JR c ops (ops.toList.map Stp.plain) k st Γ) : J c (.code (.region id ops false) :: k) st Γ := by
  intro b cs a w h1 h2 h3 h4
  have h5 := h b cs a w h1 h2 h3 h4
  rw [← range_map_ops] at h5
  obtain ⟨e, a', w', hq, harr⟩ := wp_ops _ a w (wpOps_of_CR (P := c.P) (G := Arr c b cs k) (List.range ops.size) a w (fun i hi => List.mem_range.1 hi) h5) b k cs
  cases e with
  | normal => exact Arr.of_step step_region (Arr.of_steps harr hq)
  | exit id => exact hq.elim
  | goto l => exact hq.elim
  | ret => exact hq.elim
  | panic ch => exact hq.elim
  | outgrown => exact hq.elim

def fitB (ops : Array Oper) (n : Nat) : Bool := ops.toList.all fun o => match o.dst with | some d => Nat.blt d n | none => true
theorem fit_of {ops : Array Oper} {n : Nat} (h : fitB ops n = true) : ∀ i, i < ops.size → ∀ d, (opAt ops i).dst = some d → d < n := by
  intro i hi d hd
  have := List.all_eq_true.1 h (opAt ops i) (by
    have := opAt_eq hi
    exact Array.mem_toList_iff.2 (Array.mem_of_getElem? this))
  rw [hd] at this
  exact Nat.le_of_ble_eq_true this

def plansB (ops : Array Oper) (pr : Nat → Nat → Bool) (n : Nat) (plans : List (List Pl)) : Bool :=
  let acts := actsOf (plans.headD [])
  !plans.isEmpty && fitB ops n && plans.all (planB ops pr) && plans.all (fun p => p.all fun x => acts.contains x.1 == !x.2.1) && decide acts.Nodup && acts.all (fun i => decide (i < ops.size)) &&
  (lins pr acts.length acts).all fun l => plans.any fun p => actsOf p == l

theorem J_draws {id : Nat} {ops : Array Oper} (plans : List (List Pl)) (hp : plansB ops (pre ops) c.n plans = true) (h : ∀ p ∈ plans, JR c ops (p.map (stp ops)) k st Γ) : J c (.code (.region id ops true) :: k) st Γ := by
  intro b cs a w h1 h2 h3 h4
  simp only [plansB, Bool.and_eq_true, List.all_eq_true, decide_eq_true_eq] at hp
  obtain ⟨⟨⟨⟨⟨⟨hne, hfit⟩, hpl⟩, hfl⟩, hnd⟩, hal⟩, hcov⟩ := hp
  have hne' : plans ≠ [] := by intro e; rw [e] at hne; cases hne
  have hwp : (Code.region id ops true).wp c.P (QG (Arr c b cs k)) a w := wp_region_draw fun t => by
    simp only [Region.schedule, c.hm, Bool.true_or, if_true]
    refine wpOps_of_plans (pr := pre ops) (plans := plans) (acts := actsOf (plans.headD [])) hne' (fun p hp => (planOk_of (hpl p hp)).1) (fun p hp => (planOk_of (hpl p hp)).2) (fun p hp x hx => by simpa using hfl p hp x hx) hnd hal (fun l hl => ?_) (fun i hi d hd => Nat.lt_of_lt_of_le (fit_of hfit i hi d hd) h3.2.1) (fun p hp => h p hp b cs a _ h1 h2 h3 h4.drew) t
    obtain ⟨p, hp, he⟩ := List.any_eq_true.1 (hcov l hl)
    exact ⟨p, hp, by simpa using he⟩
  obtain ⟨e, a', w', hq, harr⟩ := hwp b k cs
  cases e with
  | normal => exact Arr.of_steps harr hq
  | exit id => exact hq.elim
  | goto l => exact hq.elim
  | ret => exact hq.elim
  | panic ch => exact hq.elim
  | outgrown => exact hq.elim
theorem J_draw {id : Nat} {ops : Array Oper} (plan : List Pl) (hp : plansB ops (pre ops) c.n [plan] = true) (h : JR c ops (plan.map (stp ops)) k st Γ) : J c (.code (.region id ops true) :: k) st Γ :=
  J_draws [plan] hp fun p hp => by rw [List.mem_singleton.1 hp]; exact h
theorem J_draw2 {id : Nat} {ops : Array Oper} (p1 p2 : List Pl) (hp : plansB ops (pre ops) c.n [p1, p2] = true) (h1 : JR c ops (p1.map (stp ops)) k st Γ) (h2 : JR c ops (p2.map (stp ops)) k st Γ) : J c (.code (.region id ops true) :: k) st Γ :=
  J_draws [p1, p2] hp fun p hp => by
    rcases List.mem_cons.1 hp with rfl | hp
    · exact h1
    · rw [List.mem_singleton.1 hp]; exact h2
theorem J_draw3 {id : Nat} {ops : Array Oper} (p1 p2 p3 : List Pl) (hp : plansB ops (pre ops) c.n [p1, p2, p3] = true) (h1 : JR c ops (p1.map (stp ops)) k st Γ) (h2 : JR c ops (p2.map (stp ops)) k st Γ) (h3 : JR c ops (p3.map (stp ops)) k st Γ) : J c (.code (.region id ops true) :: k) st Γ :=
  J_draws [p1, p2, p3] hp fun p hp => by
    rcases List.mem_cons.1 hp with rfl | hp
    · exact h1
    rcases List.mem_cons.1 hp with rfl | hp
    · exact h2
    · rw [List.mem_singleton.1 hp]; exact h3

theorem JR_nil {ops : Array Oper} (h : J c k st Γ) : JR c ops [] k st Γ := h
theorem JS_nil {ops : Array Oper} {l : List Stp} (h : JR c ops l k st Γ) : JS c ops [] l k st Γ :=
  fun b cs a w h1 h2 h3 h4 => ⟨fun _ hr => (by cases hr), h b cs a w h1 h2 h3 h4⟩

/-- Is it carried out? -/
def gOk (ops : Array Oper) (st : St) (o : Oper) : Option Bool :=
  match o.guard with
  | none => some true
  | some (j, want) =>
    match (ops[j]?).bind (·.dst) with
    | some d => match look st d with
      | some (.bool b) => some (b == want)
      | _ => none
    | none => none
theorem gOk_wanted {n : Nat} {ops : Array Oper} {o : Oper} {t : Bool} {a : Act} (h : gOk ops st o = some t) (ha : Agree n st a) : Region.wanted o (yielded ops a.tmps) = t := by
  unfold gOk at h
  unfold Region.wanted
  split at h
  · rename_i hg; rw [hg]; simpa using h
  · rename_i j want hg
    rw [hg]
    dsimp only at h ⊢
    split at h
    · rename_i d hd
      split at h
      · rename_i b hb
        have := ha.2.2 d _ hb
        have hy : yielded ops a.tmps j = some b := by
          unfold yielded
          rw [hd]
          simp only [Option.bind_some]
          rw [Array.getD_eq_getD_getElem?] at this
          cases hx : a.tmps[d]? with
          | none => rw [hx] at this; simp [undef] at this
          | some v => rw [hx] at this; simp only [Option.getD_some] at this; subst this; rfl
        rw [hy]
        cases h
        cases b <;> cases want <;> rfl
      · cases h
    · cases h

/-- It reads alone, and gives v. -/
def RO (c : Ctx) (st : St) (Γ : List Assn) (o : Oper) (v : Value) : Prop := ∀ a w, Agree c.n st a → Sat c.B c.F Γ w → (execOp a.eval o).run c.P w = .ok (.value v) w

def stput (d : Option Tmp) (v : Value) (st : St) : St := match d with | some d => (d, v) :: st | none => st
def dOk (d : Option Tmp) (n : Nat) : Bool := match d with | some d => Nat.blt d n | none => true
theorem Agree.put {n : Nat} {st : St} {a : Act} (h : Agree n st a) {d : Option Tmp} (hd : dOk d n = true) (v : Value) : Agree n (stput d v st) (a.put d v) := by
  cases d with
  | none => exact h
  | some d =>
    have hlt : d < n := Nat.le_of_ble_eq_true hd
    refine ⟨h.1, by rw [size_put]; exact h.2.1, fun t u hu => ?_⟩
    unfold stput look at hu
    cases e : Nat.beq d t with
    | true =>
      rw [e] at hu
      have := Nat.eq_of_beq_eq_true e
      subst this
      cases hu
      exact getD_put_same _ _ _ (Nat.lt_of_lt_of_le hlt h.2.1)
    | false =>
      rw [e] at hu
      rw [getD_put _ _ _ _ (fun e' => by cases e'; simp at e)]
      exact h.2.2 t u hu

theorem JS_cons {ops : Array Oper} {r : Oper} {rs : List Oper} {l : List Stp} {d : Tmp} {v : Value} (hd : r.dst = some d) (hv : look st d = some v) (hr : RO c st Γ r v) (h : JS c ops rs l k st Γ) : JS c ops (r :: rs) l k st Γ := by
  intro b cs a w h1 h2 h3 h4
  obtain ⟨h5, h6⟩ := h b cs a w h1 h2 h3 h4
  refine ⟨fun x hx => ?_, h6⟩
  rcases List.mem_cons.1 hx with rfl | hx
  · intro _ d' hd'
    rw [hd] at hd'; cases hd'
    rw [h3.2.2 d v hv]
    exact hr a w h3 h4
  · exact h5 x hx
theorem JS_off {ops : Array Oper} {r : Oper} {rs : List Oper} {l : List Stp} (hg : gOk ops st r = some false) (h : JS c ops rs l k st Γ) : JS c ops (r :: rs) l k st Γ := by
  intro b cs a w h1 h2 h3 h4
  obtain ⟨h5, h6⟩ := h b cs a w h1 h2 h3 h4
  refine ⟨fun x hx => ?_, h6⟩
  rcases List.mem_cons.1 hx with rfl | hx
  · intro hw
    rw [gOk_wanted hg h3] at hw; cases hw
  · exact h5 x hx

/-- Not carried out. -/
theorem JR_skip {ops : Array Oper} {o : Oper} {fl : Bool} {rs : List Oper} {l : List Stp} (hg : gOk ops st o = some false) (hd : dOk o.dst c.n = true) (h : JR c ops l k (stput o.dst undef st) Γ) : JR c ops (⟨o, fl, rs⟩ :: l) k st Γ := by
  intro b cs a w h1 h2 h3 h4
  unfold CR
  simp only [gOk_wanted hg h3, Bool.false_eq_true, if_false]
  exact h b cs _ w h1 h2 (h3.put hd undef) h4
/-- It reads alone: ahead of its turn; in its turn. -/
theorem JR_ro {ops : Array Oper} {o : Oper} {rs : List Oper} {l : List Stp} {v : Value} (hg : gOk ops st o = some true) (hd : dOk o.dst c.n = true) (hv : RO c st Γ o v) (h : JR c ops l k (stput o.dst v st) Γ) : JR c ops (⟨o, true, rs⟩ :: l) k st Γ := by
  intro b cs a w h1 h2 h3 h4
  unfold CR
  simp only [gOk_wanted hg h3, if_true]
  exact ⟨v, hv a w h3 h4, h b cs _ w h1 h2 (h3.put hd v) h4⟩
theorem JR_rv {ops : Array Oper} {o : Oper} {rs : List Oper} {l : List Stp} {v : Value} (hg : gOk ops st o = some true) (hd : dOk o.dst c.n = true) (hv : RO c st Γ o v) (h : JS c ops rs l k (stput o.dst v st) Γ) : JR c ops (⟨o, false, rs⟩ :: l) k st Γ := by
  intro b cs a w h1 h2 h3 h4
  unfold CR
  simp only [gOk_wanted hg h3, if_true, Bool.false_eq_true, if_false]
  rw [hv a w h3 h4]
  exact h b cs _ w h1 h2 (h3.put hd v) h4
/-- A test in the middle of a region: by cases. -/
theorem JR_cases {ops : Array Oper} {l : List Stp} (p : Prop) (h1 : p → JR c ops l k st Γ) (h2 : ¬ p → JR c ops l k st Γ) : JR c ops l k st Γ := by
  by_cases h : p
  · exact h1 h
  · exact h2 h
end
end Go.Proofs.YtaeefjcbmkiiaaaGreatDoor.Sl
