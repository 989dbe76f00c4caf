/- Closed facts on a program's types and functions, as classes: found by the types' numbers. -/
import Derived.Calls
import Derived.KernelRfl
import Derived.Laws.StructEq
import Derived.Test.YtaeefjcbmkiiaaaGreatDoorProg
import Derived.Below
import Derived.Laws.World
set_option linter.unusedVariables false
set_option linter.unusedSimpArgs false
namespace Go.Proofs.YtaeefjcbmkiiaaaGreatDoor.Sl
open Go
/-! ### closed facts on types, found by their numbers -/
def aggOf (P : Program) (T : TypeId) : Option Bool := match P.underlying T with | some (.struct _) => some true | some (.array _ _) => some true | some _ => some false | none => none
def szOf (P : Program) (T : TypeId) : Option Nat := (P.info? T).map (·.size)
class TSc (P : Program) (T : TypeId) : Prop where
  a : aggOf P T = some false
  s : szOf P T = some 1
class TAgg (P : Program) (T : TypeId) (n : outParam Nat) : Prop where
  a : aggOf P T = some true
  s : szOf P T = some n
class TZero (P : Program) (T : TypeId) (z : outParam Value) : Prop where
  z : (P.info? T).bind (·.zero) = some z
def foffOf (P : Program) (T i : Nat) : Option (Nat × Nat) := match P.underlying T with
  | some (.struct fs) => match fs[i]? with | some f => (szOf P f.type).map fun s => (f.offset, s) | none => none
  | _ => none
class FOff (P : Program) (T i : Nat) (off : outParam Nat) : Prop where
  h : ∃ s, foffOf P T i = some (off, s + 1)
class TInt (P : Program) (T : TypeId) (k : outParam IntKind) : Prop where
  h : P.underlying T = some (.int k)
class TStr (P : Program) (T : TypeId) : Prop where
  h : P.underlying T = some .string
class TBool (P : Program) (T : TypeId) : Prop where
  h : P.underlying T = some .bool
class TPtr (P : Program) (T : TypeId) (E : outParam TypeId) : Prop where
  h : P.underlying T = some (.pointer E)
class TSlice (P : Program) (T : TypeId) (E : outParam TypeId) : Prop where
  h : P.underlying T = some (.slice E)
class TMap (P : Program) (T : TypeId) (K E : outParam TypeId) : Prop where
  h : P.underlying T = some (.map K E)
class ESize (P : Program) (E : TypeId) (sz : outParam Nat) (bytes : outParam Nat) : Prop where
  h : (P.info? E).map (fun i => (i.size, i.bytes)) = some (sz, bytes)
/-- A function with a body. -/
class IsFn (P : Program) (f : FuncId) : Prop where
  h : ∃ fn, P.funcs[f]? = some fn ∧ (fn.name == "runtime.NumGoroutine") = false ∧ fn.body.isNone = false

def scalarB (P : Program) (T : TypeId) : Bool := match P.underlying T with | some (.int _) | some .bool | some .string => true | _ => false
def flatFields (P : Program) : Nat → List Field → Bool
  | _, [] => true
  | i, f :: fs => f.name != "_" && f.offset == i && scalarB P f.type && flatFields P (i + 1) fs
/-- A struct whose fields are numbers, bools and strings, of which the kinds are these. -/
class TFlat (P : Program) (T : TypeId) : Prop where
  u : P.underlying T = some (.struct (P.fieldsOf T))
  s : P.stoodInHeld T = false
  g : P.eqGuardType P.depth T = false
  f : flatFields P 0 (P.fieldsOf T).toList = true
/-- The kinds of a flat struct's fields. -/
inductive FK where
  | int (k : IntKind)
  | bool
  | str
def fkOf (P : Program) (T : TypeId) : Option FK := match P.underlying T with | some (.int k) => some (.int k) | some .bool => some .bool | some .string => some .str | _ => none
def fitK : List FK → List Value → List Value → Bool
  | .int _ :: ks, .int a _ :: xs, .int b _ :: ys => a == b && fitK ks xs ys
  | .bool :: ks, .bool _ :: xs, .bool _ :: ys => fitK ks xs ys
  | .str :: ks, .string _ :: xs, .string _ :: ys => fitK ks xs ys
  | [], [], [] => true
  | _, _, _ => false
class TFlatK (P : Program) (T : TypeId) (ks : outParam (List FK)) : Prop extends TFlat P T where
  k : (P.fieldsOf T).toList.map (fun f => fkOf P f.type) = ks.map some
theorem TFlatK.len {P : Program} {T : TypeId} {ks : List FK} (h : TFlatK P T ks) : (P.fieldsOf T).toList.length = ks.length := by
  have := congrArg List.length h.k
  simpa using this
/-- Where a struct's fields lie. -/
class TPlaces (P : Program) (T : TypeId) (pl : outParam (List (Nat × Nat))) : Prop where
  h : ∃ fs, P.underlying T = some (.struct fs) ∧ fs.toList.map (fun f => (f.offset, (szOf P f.type).getD 0)) = pl ∧ fs.toList.all (fun f => (szOf P f.type).isSome) = true
end Go.Proofs.YtaeefjcbmkiiaaaGreatDoor.Sl
/- Facts on the translation's types and functions, by their numbers: made by gen_types.py off the translation's table; each is checked by the kernel. -/
namespace Go.Proofs.YtaeefjcbmkiiaaaGreatDoor
open Go Sl
theorem follows : Tryz.prog.follows .mixedOrders = true := by kernel_rfl
-- 1: func()
instance : TSc Tryz.prog 1 := ⟨by kernel_rfl, by kernel_rfl⟩
instance : TZero Tryz.prog 1 (.nilFunc) := ⟨by kernel_rfl⟩
instance : ESize Tryz.prog 1 1 8 := ⟨by kernel_rfl⟩
-- 2: int64
instance : TSc Tryz.prog 2 := ⟨by kernel_rfl, by kernel_rfl⟩
instance : TInt Tryz.prog 2 .i64 := ⟨by kernel_rfl⟩
instance : TZero Tryz.prog 2 (.int .i64 0) := ⟨by kernel_rfl⟩
instance : ESize Tryz.prog 2 1 8 := ⟨by kernel_rfl⟩
-- 3: int
instance : TSc Tryz.prog 3 := ⟨by kernel_rfl, by kernel_rfl⟩
instance : TInt Tryz.prog 3 .i64 := ⟨by kernel_rfl⟩
instance : TZero Tryz.prog 3 (.int .i64 0) := ⟨by kernel_rfl⟩
instance : ESize Tryz.prog 3 1 8 := ⟨by kernel_rfl⟩
-- 4: bool
instance : TSc Tryz.prog 4 := ⟨by kernel_rfl, by kernel_rfl⟩
instance : TBool Tryz.prog 4 := ⟨by kernel_rfl⟩
instance : TZero Tryz.prog 4 (.bool false) := ⟨by kernel_rfl⟩
instance : ESize Tryz.prog 4 1 1 := ⟨by kernel_rfl⟩
-- 5: uint8
instance : TSc Tryz.prog 5 := ⟨by kernel_rfl, by kernel_rfl⟩
instance : TInt Tryz.prog 5 .u8 := ⟨by kernel_rfl⟩
instance : TZero Tryz.prog 5 (.int .u8 0) := ⟨by kernel_rfl⟩
instance : ESize Tryz.prog 5 1 1 := ⟨by kernel_rfl⟩
-- 6: abi.BoundsErrorCode
instance : TSc Tryz.prog 6 := ⟨by kernel_rfl, by kernel_rfl⟩
instance : TInt Tryz.prog 6 .u8 := ⟨by kernel_rfl⟩
instance : TZero Tryz.prog 6 (.int .u8 0) := ⟨by kernel_rfl⟩
instance : ESize Tryz.prog 6 1 1 := ⟨by kernel_rfl⟩
-- 7: struct { x int64; y int; signed bool; code abi.BoundsErrorCode }
instance : TAgg Tryz.prog 7 4 := ⟨by kernel_rfl, by kernel_rfl⟩
instance : FOff Tryz.prog 7 0 0 := ⟨0, by kernel_rfl⟩
instance : FOff Tryz.prog 7 1 1 := ⟨0, by kernel_rfl⟩
instance : FOff Tryz.prog 7 2 2 := ⟨0, by kernel_rfl⟩
instance : FOff Tryz.prog 7 3 3 := ⟨0, by kernel_rfl⟩
instance : TPlaces Tryz.prog 7 [(0, 1), (1, 1), (2, 1), (3, 1)] := ⟨Tryz.prog.fieldsOf 7, by kernel_rfl, by kernel_rfl, by kernel_rfl⟩
instance : TFlatK Tryz.prog 7 [.int .i64, .int .i64, .bool, .int .u8] := { u := by kernel_rfl, s := by kernel_rfl, g := by kernel_rfl, f := by kernel_rfl, k := by kernel_rfl }
instance : TZero Tryz.prog 7 (.agg #[.int .i64 0, .int .i64 0, .bool false, .int .u8 0]) := ⟨by kernel_rfl⟩
instance : ESize Tryz.prog 7 4 24 := ⟨by kernel_rfl⟩
-- 8: runtime.boundsError
instance : TAgg Tryz.prog 8 4 := ⟨by kernel_rfl, by kernel_rfl⟩
instance : FOff Tryz.prog 8 0 0 := ⟨0, by kernel_rfl⟩
instance : FOff Tryz.prog 8 1 1 := ⟨0, by kernel_rfl⟩
instance : FOff Tryz.prog 8 2 2 := ⟨0, by kernel_rfl⟩
instance : FOff Tryz.prog 8 3 3 := ⟨0, by kernel_rfl⟩
instance : TPlaces Tryz.prog 8 [(0, 1), (1, 1), (2, 1), (3, 1)] := ⟨Tryz.prog.fieldsOf 8, by kernel_rfl, by kernel_rfl, by kernel_rfl⟩
instance : TZero Tryz.prog 8 (.agg #[.int .i64 0, .int .i64 0, .bool false, .int .u8 0]) := ⟨by kernel_rfl⟩
instance : ESize Tryz.prog 8 4 24 := ⟨by kernel_rfl⟩
-- 9: string
instance : TSc Tryz.prog 9 := ⟨by kernel_rfl, by kernel_rfl⟩
instance : TStr Tryz.prog 9 := ⟨by kernel_rfl⟩
instance : TZero Tryz.prog 9 (.string ⟨#[]⟩) := ⟨by kernel_rfl⟩
instance : ESize Tryz.prog 9 1 16 := ⟨by kernel_rfl⟩
-- 10: runtime.errorString
instance : TSc Tryz.prog 10 := ⟨by kernel_rfl, by kernel_rfl⟩
instance : TStr Tryz.prog 10 := ⟨by kernel_rfl⟩
instance : TZero Tryz.prog 10 (.string ⟨#[]⟩) := ⟨by kernel_rfl⟩
instance : ESize Tryz.prog 10 1 16 := ⟨by kernel_rfl⟩
-- 11: runtime.plainError
instance : TSc Tryz.prog 11 := ⟨by kernel_rfl, by kernel_rfl⟩
instance : TStr Tryz.prog 11 := ⟨by kernel_rfl⟩
instance : TZero Tryz.prog 11 (.string ⟨#[]⟩) := ⟨by kernel_rfl⟩
instance : ESize Tryz.prog 11 1 16 := ⟨by kernel_rfl⟩
-- 12: uintptr
instance : TSc Tryz.prog 12 := ⟨by kernel_rfl, by kernel_rfl⟩
instance : TInt Tryz.prog 12 .u64 := ⟨by kernel_rfl⟩
instance : TZero Tryz.prog 12 (.int .u64 0) := ⟨by kernel_rfl⟩
instance : ESize Tryz.prog 12 1 8 := ⟨by kernel_rfl⟩
-- 13: struct { msg string; addr uintptr }
instance : TAgg Tryz.prog 13 2 := ⟨by kernel_rfl, by kernel_rfl⟩
instance : FOff Tryz.prog 13 0 0 := ⟨0, by kernel_rfl⟩
instance : FOff Tryz.prog 13 1 1 := ⟨0, by kernel_rfl⟩
instance : TPlaces Tryz.prog 13 [(0, 1), (1, 1)] := ⟨Tryz.prog.fieldsOf 13, by kernel_rfl, by kernel_rfl, by kernel_rfl⟩
instance : TZero Tryz.prog 13 (.agg #[.string ⟨#[]⟩, .int .u64 0]) := ⟨by kernel_rfl⟩
instance : ESize Tryz.prog 13 2 24 := ⟨by kernel_rfl⟩
-- 14: runtime.errorAddressString
instance : TAgg Tryz.prog 14 2 := ⟨by kernel_rfl, by kernel_rfl⟩
instance : FOff Tryz.prog 14 0 0 := ⟨0, by kernel_rfl⟩
instance : FOff Tryz.prog 14 1 1 := ⟨0, by kernel_rfl⟩
instance : TPlaces Tryz.prog 14 [(0, 1), (1, 1)] := ⟨Tryz.prog.fieldsOf 14, by kernel_rfl, by kernel_rfl, by kernel_rfl⟩
instance : TZero Tryz.prog 14 (.agg #[.string ⟨#[]⟩, .int .u64 0]) := ⟨by kernel_rfl⟩
instance : ESize Tryz.prog 14 2 24 := ⟨by kernel_rfl⟩
-- 15: *runtime.TypeAssertionError
instance : TSc Tryz.prog 15 := ⟨by kernel_rfl, by kernel_rfl⟩
instance : TPtr Tryz.prog 15 267 := ⟨by kernel_rfl⟩
instance : TZero Tryz.prog 15 (.pointer none) := ⟨by kernel_rfl⟩
instance : ESize Tryz.prog 15 1 8 := ⟨by kernel_rfl⟩
-- 16: *runtime.PanicNilError
instance : TSc Tryz.prog 16 := ⟨by kernel_rfl, by kernel_rfl⟩
instance : TPtr Tryz.prog 16 270 := ⟨by kernel_rfl⟩
instance : TZero Tryz.prog 16 (.pointer none) := ⟨by kernel_rfl⟩
instance : ESize Tryz.prog 16 1 8 := ⟨by kernel_rfl⟩
-- 17: *abi.Type
instance : TSc Tryz.prog 17 := ⟨by kernel_rfl, by kernel_rfl⟩
instance : TPtr Tryz.prog 17 277 := ⟨by kernel_rfl⟩
instance : TZero Tryz.prog 17 (.pointer none) := ⟨by kernel_rfl⟩
instance : ESize Tryz.prog 17 1 8 := ⟨by kernel_rfl⟩
-- 18: struct { typ *abi.Type }
instance : TAgg Tryz.prog 18 1 := ⟨by kernel_rfl, by kernel_rfl⟩
instance : FOff Tryz.prog 18 0 0 := ⟨0, by kernel_rfl⟩
instance : TPlaces Tryz.prog 18 [(0, 1)] := ⟨Tryz.prog.fieldsOf 18, by kernel_rfl, by kernel_rfl, by kernel_rfl⟩
instance : TZero Tryz.prog 18 (.agg #[.pointer none]) := ⟨by kernel_rfl⟩
instance : ESize Tryz.prog 18 1 8 := ⟨by kernel_rfl⟩
-- 19: maps.unhashableTypeError
instance : TAgg Tryz.prog 19 1 := ⟨by kernel_rfl, by kernel_rfl⟩
instance : FOff Tryz.prog 19 0 0 := ⟨0, by kernel_rfl⟩
instance : TPlaces Tryz.prog 19 [(0, 1)] := ⟨Tryz.prog.fieldsOf 19, by kernel_rfl, by kernel_rfl, by kernel_rfl⟩
instance : TZero Tryz.prog 19 (.agg #[.pointer none]) := ⟨by kernel_rfl⟩
instance : ESize Tryz.prog 19 1 8 := ⟨by kernel_rfl⟩
-- 20: interface {}
instance : TSc Tryz.prog 20 := ⟨by kernel_rfl, by kernel_rfl⟩
instance : TZero Tryz.prog 20 (.nilIface) := ⟨by kernel_rfl⟩
instance : ESize Tryz.prog 20 1 16 := ⟨by kernel_rfl⟩
-- 21: int32
instance : TSc Tryz.prog 21 := ⟨by kernel_rfl, by kernel_rfl⟩
instance : TInt Tryz.prog 21 .i32 := ⟨by kernel_rfl⟩
instance : TZero Tryz.prog 21 (.int .i32 0) := ⟨by kernel_rfl⟩
instance : ESize Tryz.prog 21 1 4 := ⟨by kernel_rfl⟩
-- 22: []kiosklaw3.Act
instance : TSc Tryz.prog 22 := ⟨by kernel_rfl, by kernel_rfl⟩
instance : TSlice Tryz.prog 22 34 := ⟨by kernel_rfl⟩
instance : TZero Tryz.prog 22 (.slice none 0 0) := ⟨by kernel_rfl⟩
instance : ESize Tryz.prog 22 1 24 := ⟨by kernel_rfl⟩
-- 23: func() bool
instance : TSc Tryz.prog 23 := ⟨by kernel_rfl, by kernel_rfl⟩
instance : TZero Tryz.prog 23 (.nilFunc) := ⟨by kernel_rfl⟩
instance : ESize Tryz.prog 23 1 8 := ⟨by kernel_rfl⟩
-- 24: func([]kiosklaw3.Act) bool
instance : TSc Tryz.prog 24 := ⟨by kernel_rfl, by kernel_rfl⟩
instance : TZero Tryz.prog 24 (.nilFunc) := ⟨by kernel_rfl⟩
instance : ESize Tryz.prog 24 1 8 := ⟨by kernel_rfl⟩
-- 25: *kiosklaw3.World
instance : TSc Tryz.prog 25 := ⟨by kernel_rfl, by kernel_rfl⟩
instance : TPtr Tryz.prog 25 38 := ⟨by kernel_rfl⟩
instance : TZero Tryz.prog 25 (.pointer none) := ⟨by kernel_rfl⟩
instance : ESize Tryz.prog 25 1 8 := ⟨by kernel_rfl⟩
-- 26: *kiosklaw3.Model
instance : TSc Tryz.prog 26 := ⟨by kernel_rfl, by kernel_rfl⟩
instance : TPtr Tryz.prog 26 45 := ⟨by kernel_rfl⟩
instance : TZero Tryz.prog 26 (.pointer none) := ⟨by kernel_rfl⟩
instance : ESize Tryz.prog 26 1 8 := ⟨by kernel_rfl⟩
-- 28: func(int) (*kiosklaw3.World, *kiosklaw3.Model, bool)
instance : TSc Tryz.prog 28 := ⟨by kernel_rfl, by kernel_rfl⟩
instance : TZero Tryz.prog 28 (.nilFunc) := ⟨by kernel_rfl⟩
instance : ESize Tryz.prog 28 1 8 := ⟨by kernel_rfl⟩
-- 29: func(int, int) int
instance : TSc Tryz.prog 29 := ⟨by kernel_rfl, by kernel_rfl⟩
instance : TZero Tryz.prog 29 (.nilFunc) := ⟨by kernel_rfl⟩
instance : ESize Tryz.prog 29 1 8 := ⟨by kernel_rfl⟩
-- 30: api.Errno
instance : TSc Tryz.prog 30 := ⟨by kernel_rfl, by kernel_rfl⟩
instance : TInt Tryz.prog 30 .i64 := ⟨by kernel_rfl⟩
instance : TZero Tryz.prog 30 (.int .i64 0) := ⟨by kernel_rfl⟩
instance : ESize Tryz.prog 30 1 8 := ⟨by kernel_rfl⟩
-- 31: func(kiosklaw3.Act) api.Errno
instance : TSc Tryz.prog 31 := ⟨by kernel_rfl, by kernel_rfl⟩
instance : TZero Tryz.prog 31 (.nilFunc) := ⟨by kernel_rfl⟩
instance : ESize Tryz.prog 31 1 8 := ⟨by kernel_rfl⟩
-- 32: []int
instance : TSc Tryz.prog 32 := ⟨by kernel_rfl, by kernel_rfl⟩
instance : TSlice Tryz.prog 32 3 := ⟨by kernel_rfl⟩
instance : TZero Tryz.prog 32 (.slice none 0 0) := ⟨by kernel_rfl⟩
instance : ESize Tryz.prog 32 1 24 := ⟨by kernel_rfl⟩
-- 33: struct { Op int; Term int; Vote int; Index int; N int; Data string; Keep []int; Noise []int }
instance : TAgg Tryz.prog 33 8 := ⟨by kernel_rfl, by kernel_rfl⟩
instance : FOff Tryz.prog 33 0 0 := ⟨0, by kernel_rfl⟩
instance : FOff Tryz.prog 33 1 1 := ⟨0, by kernel_rfl⟩
instance : FOff Tryz.prog 33 2 2 := ⟨0, by kernel_rfl⟩
instance : FOff Tryz.prog 33 3 3 := ⟨0, by kernel_rfl⟩
instance : FOff Tryz.prog 33 4 4 := ⟨0, by kernel_rfl⟩
instance : FOff Tryz.prog 33 5 5 := ⟨0, by kernel_rfl⟩
instance : FOff Tryz.prog 33 6 6 := ⟨0, by kernel_rfl⟩
instance : FOff Tryz.prog 33 7 7 := ⟨0, by kernel_rfl⟩
instance : TPlaces Tryz.prog 33 [(0, 1), (1, 1), (2, 1), (3, 1), (4, 1), (5, 1), (6, 1), (7, 1)] := ⟨Tryz.prog.fieldsOf 33, by kernel_rfl, by kernel_rfl, by kernel_rfl⟩
instance : TZero Tryz.prog 33 (.agg #[.int .i64 0, .int .i64 0, .int .i64 0, .int .i64 0, .int .i64 0, .string ⟨#[]⟩, .slice none 0 0, .slice none 0 0]) := ⟨by kernel_rfl⟩
instance : ESize Tryz.prog 33 8 104 := ⟨by kernel_rfl⟩
-- 34: kiosklaw3.Act
instance : TAgg Tryz.prog 34 8 := ⟨by kernel_rfl, by kernel_rfl⟩
instance : FOff Tryz.prog 34 0 0 := ⟨0, by kernel_rfl⟩
instance : FOff Tryz.prog 34 1 1 := ⟨0, by kernel_rfl⟩
instance : FOff Tryz.prog 34 2 2 := ⟨0, by kernel_rfl⟩
instance : FOff Tryz.prog 34 3 3 := ⟨0, by kernel_rfl⟩
instance : FOff Tryz.prog 34 4 4 := ⟨0, by kernel_rfl⟩
instance : FOff Tryz.prog 34 5 5 := ⟨0, by kernel_rfl⟩
instance : FOff Tryz.prog 34 6 6 := ⟨0, by kernel_rfl⟩
instance : FOff Tryz.prog 34 7 7 := ⟨0, by kernel_rfl⟩
instance : TPlaces Tryz.prog 34 [(0, 1), (1, 1), (2, 1), (3, 1), (4, 1), (5, 1), (6, 1), (7, 1)] := ⟨Tryz.prog.fieldsOf 34, by kernel_rfl, by kernel_rfl, by kernel_rfl⟩
instance : TZero Tryz.prog 34 (.agg #[.int .i64 0, .int .i64 0, .int .i64 0, .int .i64 0, .int .i64 0, .string ⟨#[]⟩, .slice none 0 0, .slice none 0 0]) := ⟨by kernel_rfl⟩
instance : ESize Tryz.prog 34 8 104 := ⟨by kernel_rfl⟩
-- 35: *disk.Disk
instance : TSc Tryz.prog 35 := ⟨by kernel_rfl, by kernel_rfl⟩
instance : TPtr Tryz.prog 35 86 := ⟨by kernel_rfl⟩
instance : TZero Tryz.prog 35 (.pointer none) := ⟨by kernel_rfl⟩
instance : ESize Tryz.prog 35 1 8 := ⟨by kernel_rfl⟩
-- 36: *wal.Log
instance : TSc Tryz.prog 36 := ⟨by kernel_rfl, by kernel_rfl⟩
instance : TPtr Tryz.prog 36 92 := ⟨by kernel_rfl⟩
instance : TZero Tryz.prog 36 (.pointer none) := ⟨by kernel_rfl⟩
instance : ESize Tryz.prog 36 1 8 := ⟨by kernel_rfl⟩
-- 37: struct { D *disk.Disk; W *wal.Log }
instance : TAgg Tryz.prog 37 2 := ⟨by kernel_rfl, by kernel_rfl⟩
instance : FOff Tryz.prog 37 0 0 := ⟨0, by kernel_rfl⟩
instance : FOff Tryz.prog 37 1 1 := ⟨0, by kernel_rfl⟩
instance : TPlaces Tryz.prog 37 [(0, 1), (1, 1)] := ⟨Tryz.prog.fieldsOf 37, by kernel_rfl, by kernel_rfl, by kernel_rfl⟩
instance : TZero Tryz.prog 37 (.agg #[.pointer none, .pointer none]) := ⟨by kernel_rfl⟩
instance : ESize Tryz.prog 37 2 16 := ⟨by kernel_rfl⟩
-- 38: kiosklaw3.World
instance : TAgg Tryz.prog 38 2 := ⟨by kernel_rfl, by kernel_rfl⟩
instance : FOff Tryz.prog 38 0 0 := ⟨0, by kernel_rfl⟩
instance : FOff Tryz.prog 38 1 1 := ⟨0, by kernel_rfl⟩
instance : TPlaces Tryz.prog 38 [(0, 1), (1, 1)] := ⟨Tryz.prog.fieldsOf 38, by kernel_rfl, by kernel_rfl, by kernel_rfl⟩
instance : TZero Tryz.prog 38 (.agg #[.pointer none, .pointer none]) := ⟨by kernel_rfl⟩
instance : ESize Tryz.prog 38 2 16 := ⟨by kernel_rfl⟩
-- 39: []kioskref2.File
instance : TSc Tryz.prog 39 := ⟨by kernel_rfl, by kernel_rfl⟩
instance : TSlice Tryz.prog 39 89 := ⟨by kernel_rfl⟩
instance : TZero Tryz.prog 39 (.slice none 0 0) := ⟨by kernel_rfl⟩
instance : ESize Tryz.prog 39 1 24 := ⟨by kernel_rfl⟩
-- 40: struct { L []kioskref2.File; Most int; Fused int; Gone bool }
instance : TAgg Tryz.prog 40 4 := ⟨by kernel_rfl, by kernel_rfl⟩
instance : FOff Tryz.prog 40 0 0 := ⟨0, by kernel_rfl⟩
instance : FOff Tryz.prog 40 1 1 := ⟨0, by kernel_rfl⟩
instance : FOff Tryz.prog 40 2 2 := ⟨0, by kernel_rfl⟩
instance : FOff Tryz.prog 40 3 3 := ⟨0, by kernel_rfl⟩
instance : TPlaces Tryz.prog 40 [(0, 1), (1, 1), (2, 1), (3, 1)] := ⟨Tryz.prog.fieldsOf 40, by kernel_rfl, by kernel_rfl, by kernel_rfl⟩
instance : TZero Tryz.prog 40 (.agg #[.slice none 0 0, .int .i64 0, .int .i64 0, .bool false]) := ⟨by kernel_rfl⟩
instance : ESize Tryz.prog 40 4 48 := ⟨by kernel_rfl⟩
-- 41: kioskref2.Disk
instance : TAgg Tryz.prog 41 4 := ⟨by kernel_rfl, by kernel_rfl⟩
instance : FOff Tryz.prog 41 0 0 := ⟨0, by kernel_rfl⟩
instance : FOff Tryz.prog 41 1 1 := ⟨0, by kernel_rfl⟩
instance : FOff Tryz.prog 41 2 2 := ⟨0, by kernel_rfl⟩
instance : FOff Tryz.prog 41 3 3 := ⟨0, by kernel_rfl⟩
instance : TPlaces Tryz.prog 41 [(0, 1), (1, 1), (2, 1), (3, 1)] := ⟨Tryz.prog.fieldsOf 41, by kernel_rfl, by kernel_rfl, by kernel_rfl⟩
instance : TZero Tryz.prog 41 (.agg #[.slice none 0 0, .int .i64 0, .int .i64 0, .bool false]) := ⟨by kernel_rfl⟩
instance : ESize Tryz.prog 41 4 48 := ⟨by kernel_rfl⟩
-- 42: *kioskref2.Disk
instance : TSc Tryz.prog 42 := ⟨by kernel_rfl, by kernel_rfl⟩
instance : TPtr Tryz.prog 42 41 := ⟨by kernel_rfl⟩
instance : TZero Tryz.prog 42 (.pointer none) := ⟨by kernel_rfl⟩
instance : ESize Tryz.prog 42 1 8 := ⟨by kernel_rfl⟩
-- 43: *kioskref3.Log
instance : TSc Tryz.prog 43 := ⟨by kernel_rfl, by kernel_rfl⟩
instance : TPtr Tryz.prog 43 54 := ⟨by kernel_rfl⟩
instance : TZero Tryz.prog 43 (.pointer none) := ⟨by kernel_rfl⟩
instance : ESize Tryz.prog 43 1 8 := ⟨by kernel_rfl⟩
-- 44: struct { D *kioskref2.Disk; W *kioskref3.Log }
instance : TAgg Tryz.prog 44 2 := ⟨by kernel_rfl, by kernel_rfl⟩
instance : FOff Tryz.prog 44 0 0 := ⟨0, by kernel_rfl⟩
instance : FOff Tryz.prog 44 1 1 := ⟨0, by kernel_rfl⟩
instance : TPlaces Tryz.prog 44 [(0, 1), (1, 1)] := ⟨Tryz.prog.fieldsOf 44, by kernel_rfl, by kernel_rfl, by kernel_rfl⟩
instance : TZero Tryz.prog 44 (.agg #[.pointer none, .pointer none]) := ⟨by kernel_rfl⟩
instance : ESize Tryz.prog 44 2 16 := ⟨by kernel_rfl⟩
-- 45: kiosklaw3.Model
instance : TAgg Tryz.prog 45 2 := ⟨by kernel_rfl, by kernel_rfl⟩
instance : FOff Tryz.prog 45 0 0 := ⟨0, by kernel_rfl⟩
instance : FOff Tryz.prog 45 1 1 := ⟨0, by kernel_rfl⟩
instance : TPlaces Tryz.prog 45 [(0, 1), (1, 1)] := ⟨Tryz.prog.fieldsOf 45, by kernel_rfl, by kernel_rfl, by kernel_rfl⟩
instance : TZero Tryz.prog 45 (.agg #[.pointer none, .pointer none]) := ⟨by kernel_rfl⟩
instance : ESize Tryz.prog 45 2 16 := ⟨by kernel_rfl⟩
-- 46: func() []int
instance : TSc Tryz.prog 46 := ⟨by kernel_rfl, by kernel_rfl⟩
instance : TZero Tryz.prog 46 (.nilFunc) := ⟨by kernel_rfl⟩
instance : ESize Tryz.prog 46 1 8 := ⟨by kernel_rfl⟩
-- 47: []string
instance : TSc Tryz.prog 47 := ⟨by kernel_rfl, by kernel_rfl⟩
instance : TSlice Tryz.prog 47 9 := ⟨by kernel_rfl⟩
instance : TZero Tryz.prog 47 (.slice none 0 0) := ⟨by kernel_rfl⟩
instance : ESize Tryz.prog 47 1 24 := ⟨by kernel_rfl⟩
-- 48: func() []string
instance : TSc Tryz.prog 48 := ⟨by kernel_rfl, by kernel_rfl⟩
instance : TZero Tryz.prog 48 (.nilFunc) := ⟨by kernel_rfl⟩
instance : ESize Tryz.prog 48 1 8 := ⟨by kernel_rfl⟩
-- 49: struct { Term int; Vote int }
instance : TAgg Tryz.prog 49 2 := ⟨by kernel_rfl, by kernel_rfl⟩
instance : FOff Tryz.prog 49 0 0 := ⟨0, by kernel_rfl⟩
instance : FOff Tryz.prog 49 1 1 := ⟨0, by kernel_rfl⟩
instance : TPlaces Tryz.prog 49 [(0, 1), (1, 1)] := ⟨Tryz.prog.fieldsOf 49, by kernel_rfl, by kernel_rfl, by kernel_rfl⟩
instance : TFlatK Tryz.prog 49 [.int .i64, .int .i64] := { u := by kernel_rfl, s := by kernel_rfl, g := by kernel_rfl, f := by kernel_rfl, k := by kernel_rfl }
instance : TZero Tryz.prog 49 (.agg #[.int .i64 0, .int .i64 0]) := ⟨by kernel_rfl⟩
instance : ESize Tryz.prog 49 2 16 := ⟨by kernel_rfl⟩
-- 50: api.Hard
instance : TAgg Tryz.prog 50 2 := ⟨by kernel_rfl, by kernel_rfl⟩
instance : FOff Tryz.prog 50 0 0 := ⟨0, by kernel_rfl⟩
instance : FOff Tryz.prog 50 1 1 := ⟨0, by kernel_rfl⟩
instance : TPlaces Tryz.prog 50 [(0, 1), (1, 1)] := ⟨Tryz.prog.fieldsOf 50, by kernel_rfl, by kernel_rfl, by kernel_rfl⟩
instance : TFlatK Tryz.prog 50 [.int .i64, .int .i64] := { u := by kernel_rfl, s := by kernel_rfl, g := by kernel_rfl, f := by kernel_rfl, k := by kernel_rfl }
instance : TZero Tryz.prog 50 (.agg #[.int .i64 0, .int .i64 0]) := ⟨by kernel_rfl⟩
instance : ESize Tryz.prog 50 2 16 := ⟨by kernel_rfl⟩
-- 51: func() api.Hard
instance : TSc Tryz.prog 51 := ⟨by kernel_rfl, by kernel_rfl⟩
instance : TZero Tryz.prog 51 (.nilFunc) := ⟨by kernel_rfl⟩
instance : ESize Tryz.prog 51 1 8 := ⟨by kernel_rfl⟩
-- 52: []api.Entry
instance : TSc Tryz.prog 52 := ⟨by kernel_rfl, by kernel_rfl⟩
instance : TSlice Tryz.prog 52 70 := ⟨by kernel_rfl⟩
instance : TZero Tryz.prog 52 (.slice none 0 0) := ⟨by kernel_rfl⟩
instance : ESize Tryz.prog 52 1 24 := ⟨by kernel_rfl⟩
-- 53: struct { D *kioskref2.Disk; Hard api.Hard; L []api.Entry }
instance : TAgg Tryz.prog 53 4 := ⟨by kernel_rfl, by kernel_rfl⟩
instance : FOff Tryz.prog 53 0 0 := ⟨0, by kernel_rfl⟩
instance : FOff Tryz.prog 53 1 1 := ⟨1, by kernel_rfl⟩
instance : FOff Tryz.prog 53 2 3 := ⟨0, by kernel_rfl⟩
instance : TPlaces Tryz.prog 53 [(0, 1), (1, 2), (3, 1)] := ⟨Tryz.prog.fieldsOf 53, by kernel_rfl, by kernel_rfl, by kernel_rfl⟩
instance : TZero Tryz.prog 53 (.agg #[.pointer none, .int .i64 0, .int .i64 0, .slice none 0 0]) := ⟨by kernel_rfl⟩
instance : ESize Tryz.prog 53 4 48 := ⟨by kernel_rfl⟩
-- 54: kioskref3.Log
instance : TAgg Tryz.prog 54 4 := ⟨by kernel_rfl, by kernel_rfl⟩
instance : FOff Tryz.prog 54 0 0 := ⟨0, by kernel_rfl⟩
instance : FOff Tryz.prog 54 1 1 := ⟨1, by kernel_rfl⟩
instance : FOff Tryz.prog 54 2 3 := ⟨0, by kernel_rfl⟩
instance : TPlaces Tryz.prog 54 [(0, 1), (1, 2), (3, 1)] := ⟨Tryz.prog.fieldsOf 54, by kernel_rfl, by kernel_rfl, by kernel_rfl⟩
instance : TZero Tryz.prog 54 (.agg #[.pointer none, .int .i64 0, .int .i64 0, .slice none 0 0]) := ⟨by kernel_rfl⟩
instance : ESize Tryz.prog 54 4 48 := ⟨by kernel_rfl⟩
-- 55: func([]api.Entry, []api.Entry) bool
instance : TSc Tryz.prog 55 := ⟨by kernel_rfl, by kernel_rfl⟩
instance : TZero Tryz.prog 55 (.nilFunc) := ⟨by kernel_rfl⟩
instance : ESize Tryz.prog 55 1 8 := ⟨by kernel_rfl⟩
-- 56: func() []api.Entry
instance : TSc Tryz.prog 56 := ⟨by kernel_rfl, by kernel_rfl⟩
instance : TZero Tryz.prog 56 (.nilFunc) := ⟨by kernel_rfl⟩
instance : ESize Tryz.prog 56 1 8 := ⟨by kernel_rfl⟩
-- 57: func(int) string
instance : TSc Tryz.prog 57 := ⟨by kernel_rfl, by kernel_rfl⟩
instance : TZero Tryz.prog 57 (.nilFunc) := ⟨by kernel_rfl⟩
instance : ESize Tryz.prog 57 1 8 := ⟨by kernel_rfl⟩
-- 58: func(*disk.Disk, *kioskref2.Disk) bool
instance : TSc Tryz.prog 58 := ⟨by kernel_rfl, by kernel_rfl⟩
instance : TZero Tryz.prog 58 (.nilFunc) := ⟨by kernel_rfl⟩
instance : ESize Tryz.prog 58 1 8 := ⟨by kernel_rfl⟩
-- 59: func(int, []kiosklaw3.Act) bool
instance : TSc Tryz.prog 59 := ⟨by kernel_rfl, by kernel_rfl⟩
instance : TZero Tryz.prog 59 (.nilFunc) := ⟨by kernel_rfl⟩
instance : ESize Tryz.prog 59 1 8 := ⟨by kernel_rfl⟩
-- 60: func(int)
instance : TSc Tryz.prog 60 := ⟨by kernel_rfl, by kernel_rfl⟩
instance : TZero Tryz.prog 60 (.nilFunc) := ⟨by kernel_rfl⟩
instance : ESize Tryz.prog 60 1 8 := ⟨by kernel_rfl⟩
-- 61: func(kiosklaw3.Act) []api.Entry
instance : TSc Tryz.prog 61 := ⟨by kernel_rfl, by kernel_rfl⟩
instance : TZero Tryz.prog 61 (.nilFunc) := ⟨by kernel_rfl⟩
instance : ESize Tryz.prog 61 1 8 := ⟨by kernel_rfl⟩
-- 62: func(kiosklaw3.Act) api.Hard
instance : TSc Tryz.prog 62 := ⟨by kernel_rfl, by kernel_rfl⟩
instance : TZero Tryz.prog 62 (.nilFunc) := ⟨by kernel_rfl⟩
instance : ESize Tryz.prog 62 1 8 := ⟨by kernel_rfl⟩
-- 63: func([]int, []int)
instance : TSc Tryz.prog 63 := ⟨by kernel_rfl, by kernel_rfl⟩
instance : TZero Tryz.prog 63 (.nilFunc) := ⟨by kernel_rfl⟩
instance : ESize Tryz.prog 63 1 8 := ⟨by kernel_rfl⟩
-- 65: func(*disk.Disk) (*wal.Log, api.Errno)
instance : TSc Tryz.prog 65 := ⟨by kernel_rfl, by kernel_rfl⟩
instance : TZero Tryz.prog 65 (.nilFunc) := ⟨by kernel_rfl⟩
instance : ESize Tryz.prog 65 1 8 := ⟨by kernel_rfl⟩
-- 66: func([]api.Entry, []api.Entry, []api.Entry) bool
instance : TSc Tryz.prog 66 := ⟨by kernel_rfl, by kernel_rfl⟩
instance : TZero Tryz.prog 66 (.nilFunc) := ⟨by kernel_rfl⟩
instance : ESize Tryz.prog 66 1 8 := ⟨by kernel_rfl⟩
-- 67: func([]kiosklaw3.Act, int, []int, []int, int) bool
instance : TSc Tryz.prog 67 := ⟨by kernel_rfl, by kernel_rfl⟩
instance : TZero Tryz.prog 67 (.nilFunc) := ⟨by kernel_rfl⟩
instance : ESize Tryz.prog 67 1 8 := ⟨by kernel_rfl⟩
-- 68: func(int) api.Errno
instance : TSc Tryz.prog 68 := ⟨by kernel_rfl, by kernel_rfl⟩
instance : TZero Tryz.prog 68 (.nilFunc) := ⟨by kernel_rfl⟩
instance : ESize Tryz.prog 68 1 8 := ⟨by kernel_rfl⟩
-- 69: struct { Index int; Term int; Kind int; Data string }
instance : TAgg Tryz.prog 69 4 := ⟨by kernel_rfl, by kernel_rfl⟩
instance : FOff Tryz.prog 69 0 0 := ⟨0, by kernel_rfl⟩
instance : FOff Tryz.prog 69 1 1 := ⟨0, by kernel_rfl⟩
instance : FOff Tryz.prog 69 2 2 := ⟨0, by kernel_rfl⟩
instance : FOff Tryz.prog 69 3 3 := ⟨0, by kernel_rfl⟩
instance : TPlaces Tryz.prog 69 [(0, 1), (1, 1), (2, 1), (3, 1)] := ⟨Tryz.prog.fieldsOf 69, by kernel_rfl, by kernel_rfl, by kernel_rfl⟩
instance : TFlatK Tryz.prog 69 [.int .i64, .int .i64, .int .i64, .str] := { u := by kernel_rfl, s := by kernel_rfl, g := by kernel_rfl, f := by kernel_rfl, k := by kernel_rfl }
instance : TZero Tryz.prog 69 (.agg #[.int .i64 0, .int .i64 0, .int .i64 0, .string ⟨#[]⟩]) := ⟨by kernel_rfl⟩
instance : ESize Tryz.prog 69 4 40 := ⟨by kernel_rfl⟩
-- 70: api.Entry
instance : TAgg Tryz.prog 70 4 := ⟨by kernel_rfl, by kernel_rfl⟩
instance : FOff Tryz.prog 70 0 0 := ⟨0, by kernel_rfl⟩
instance : FOff Tryz.prog 70 1 1 := ⟨0, by kernel_rfl⟩
instance : FOff Tryz.prog 70 2 2 := ⟨0, by kernel_rfl⟩
instance : FOff Tryz.prog 70 3 3 := ⟨0, by kernel_rfl⟩
instance : TPlaces Tryz.prog 70 [(0, 1), (1, 1), (2, 1), (3, 1)] := ⟨Tryz.prog.fieldsOf 70, by kernel_rfl, by kernel_rfl, by kernel_rfl⟩
instance : TFlatK Tryz.prog 70 [.int .i64, .int .i64, .int .i64, .str] := { u := by kernel_rfl, s := by kernel_rfl, g := by kernel_rfl, f := by kernel_rfl, k := by kernel_rfl }
instance : TZero Tryz.prog 70 (.agg #[.int .i64 0, .int .i64 0, .int .i64 0, .string ⟨#[]⟩]) := ⟨by kernel_rfl⟩
instance : ESize Tryz.prog 70 4 40 := ⟨by kernel_rfl⟩
-- 71: func([]api.Entry, api.Entry) bool
instance : TSc Tryz.prog 71 := ⟨by kernel_rfl, by kernel_rfl⟩
instance : TZero Tryz.prog 71 (.nilFunc) := ⟨by kernel_rfl⟩
instance : ESize Tryz.prog 71 1 8 := ⟨by kernel_rfl⟩
-- 72: func([]kiosklaw3.Act, int) bool
instance : TSc Tryz.prog 72 := ⟨by kernel_rfl, by kernel_rfl⟩
instance : TZero Tryz.prog 72 (.nilFunc) := ⟨by kernel_rfl⟩
instance : ESize Tryz.prog 72 1 8 := ⟨by kernel_rfl⟩
-- 73: func() int
instance : TSc Tryz.prog 73 := ⟨by kernel_rfl, by kernel_rfl⟩
instance : TZero Tryz.prog 73 (.nilFunc) := ⟨by kernel_rfl⟩
instance : ESize Tryz.prog 73 1 8 := ⟨by kernel_rfl⟩
-- 74: func(api.Hard, []api.Entry) api.Errno
instance : TSc Tryz.prog 74 := ⟨by kernel_rfl, by kernel_rfl⟩
instance : TZero Tryz.prog 74 (.nilFunc) := ⟨by kernel_rfl⟩
instance : ESize Tryz.prog 74 1 8 := ⟨by kernel_rfl⟩
-- 75: func(int, int, string) api.Entry
instance : TSc Tryz.prog 75 := ⟨by kernel_rfl, by kernel_rfl⟩
instance : TZero Tryz.prog 75 (.nilFunc) := ⟨by kernel_rfl⟩
instance : ESize Tryz.prog 75 1 8 := ⟨by kernel_rfl⟩
-- 76: func([]kiosklaw3.Act, int, string) bool
instance : TSc Tryz.prog 76 := ⟨by kernel_rfl, by kernel_rfl⟩
instance : TZero Tryz.prog 76 (.nilFunc) := ⟨by kernel_rfl⟩
instance : ESize Tryz.prog 76 1 8 := ⟨by kernel_rfl⟩
-- 78: func(int) (*disk.Disk, api.Errno)
instance : TSc Tryz.prog 78 := ⟨by kernel_rfl, by kernel_rfl⟩
instance : TZero Tryz.prog 78 (.nilFunc) := ⟨by kernel_rfl⟩
instance : ESize Tryz.prog 78 1 8 := ⟨by kernel_rfl⟩
-- 79: func() api.Errno
instance : TSc Tryz.prog 79 := ⟨by kernel_rfl, by kernel_rfl⟩
instance : TZero Tryz.prog 79 (.nilFunc) := ⟨by kernel_rfl⟩
instance : ESize Tryz.prog 79 1 8 := ⟨by kernel_rfl⟩
-- 81: func(int) (*kioskref2.Disk, bool)
instance : TSc Tryz.prog 81 := ⟨by kernel_rfl, by kernel_rfl⟩
instance : TZero Tryz.prog 81 (.nilFunc) := ⟨by kernel_rfl⟩
instance : ESize Tryz.prog 81 1 8 := ⟨by kernel_rfl⟩
-- 83: func(*kioskref2.Disk) (*kioskref3.Log, api.Errno)
instance : TSc Tryz.prog 83 := ⟨by kernel_rfl, by kernel_rfl⟩
instance : TZero Tryz.prog 83 (.nilFunc) := ⟨by kernel_rfl⟩
instance : ESize Tryz.prog 83 1 8 := ⟨by kernel_rfl⟩
-- 84: map[string]disk.file
instance : TSc Tryz.prog 84 := ⟨by kernel_rfl, by kernel_rfl⟩
instance : TMap Tryz.prog 84 9 100 := ⟨by kernel_rfl⟩
instance : TZero Tryz.prog 84 (.map none) := ⟨by kernel_rfl⟩
instance : ESize Tryz.prog 84 1 8 := ⟨by kernel_rfl⟩
-- 85: struct { files map[string]disk.file; most int; fuse int; dead bool }
instance : TAgg Tryz.prog 85 4 := ⟨by kernel_rfl, by kernel_rfl⟩
instance : FOff Tryz.prog 85 0 0 := ⟨0, by kernel_rfl⟩
instance : FOff Tryz.prog 85 1 1 := ⟨0, by kernel_rfl⟩
instance : FOff Tryz.prog 85 2 2 := ⟨0, by kernel_rfl⟩
instance : FOff Tryz.prog 85 3 3 := ⟨0, by kernel_rfl⟩
instance : TPlaces Tryz.prog 85 [(0, 1), (1, 1), (2, 1), (3, 1)] := ⟨Tryz.prog.fieldsOf 85, by kernel_rfl, by kernel_rfl, by kernel_rfl⟩
instance : TZero Tryz.prog 85 (.agg #[.map none, .int .i64 0, .int .i64 0, .bool false]) := ⟨by kernel_rfl⟩
instance : ESize Tryz.prog 85 4 32 := ⟨by kernel_rfl⟩
-- 86: disk.Disk
instance : TAgg Tryz.prog 86 4 := ⟨by kernel_rfl, by kernel_rfl⟩
instance : FOff Tryz.prog 86 0 0 := ⟨0, by kernel_rfl⟩
instance : FOff Tryz.prog 86 1 1 := ⟨0, by kernel_rfl⟩
instance : FOff Tryz.prog 86 2 2 := ⟨0, by kernel_rfl⟩
instance : FOff Tryz.prog 86 3 3 := ⟨0, by kernel_rfl⟩
instance : TPlaces Tryz.prog 86 [(0, 1), (1, 1), (2, 1), (3, 1)] := ⟨Tryz.prog.fieldsOf 86, by kernel_rfl, by kernel_rfl, by kernel_rfl⟩
instance : TZero Tryz.prog 86 (.agg #[.map none, .int .i64 0, .int .i64 0, .bool false]) := ⟨by kernel_rfl⟩
instance : ESize Tryz.prog 86 4 32 := ⟨by kernel_rfl⟩
-- 87: func(string) int
instance : TSc Tryz.prog 87 := ⟨by kernel_rfl, by kernel_rfl⟩
instance : TZero Tryz.prog 87 (.nilFunc) := ⟨by kernel_rfl⟩
instance : ESize Tryz.prog 87 1 8 := ⟨by kernel_rfl⟩
-- 88: struct { Name string; Bytes string; Synced int }
instance : TAgg Tryz.prog 88 3 := ⟨by kernel_rfl, by kernel_rfl⟩
instance : FOff Tryz.prog 88 0 0 := ⟨0, by kernel_rfl⟩
instance : FOff Tryz.prog 88 1 1 := ⟨0, by kernel_rfl⟩
instance : FOff Tryz.prog 88 2 2 := ⟨0, by kernel_rfl⟩
instance : TPlaces Tryz.prog 88 [(0, 1), (1, 1), (2, 1)] := ⟨Tryz.prog.fieldsOf 88, by kernel_rfl, by kernel_rfl, by kernel_rfl⟩
instance : TFlatK Tryz.prog 88 [.str, .str, .int .i64] := { u := by kernel_rfl, s := by kernel_rfl, g := by kernel_rfl, f := by kernel_rfl, k := by kernel_rfl }
instance : TZero Tryz.prog 88 (.agg #[.string ⟨#[]⟩, .string ⟨#[]⟩, .int .i64 0]) := ⟨by kernel_rfl⟩
instance : ESize Tryz.prog 88 3 40 := ⟨by kernel_rfl⟩
-- 89: kioskref2.File
instance : TAgg Tryz.prog 89 3 := ⟨by kernel_rfl, by kernel_rfl⟩
instance : FOff Tryz.prog 89 0 0 := ⟨0, by kernel_rfl⟩
instance : FOff Tryz.prog 89 1 1 := ⟨0, by kernel_rfl⟩
instance : FOff Tryz.prog 89 2 2 := ⟨0, by kernel_rfl⟩
instance : TPlaces Tryz.prog 89 [(0, 1), (1, 1), (2, 1)] := ⟨Tryz.prog.fieldsOf 89, by kernel_rfl, by kernel_rfl, by kernel_rfl⟩
instance : TFlatK Tryz.prog 89 [.str, .str, .int .i64] := { u := by kernel_rfl, s := by kernel_rfl, g := by kernel_rfl, f := by kernel_rfl, k := by kernel_rfl }
instance : TZero Tryz.prog 89 (.agg #[.string ⟨#[]⟩, .string ⟨#[]⟩, .int .i64 0]) := ⟨by kernel_rfl⟩
instance : ESize Tryz.prog 89 3 40 := ⟨by kernel_rfl⟩
-- 90: []wal.segment
instance : TSc Tryz.prog 90 := ⟨by kernel_rfl, by kernel_rfl⟩
instance : TSlice Tryz.prog 90 94 := ⟨by kernel_rfl⟩
instance : TZero Tryz.prog 90 (.slice none 0 0) := ⟨by kernel_rfl⟩
instance : ESize Tryz.prog 90 1 24 := ⟨by kernel_rfl⟩
-- 91: struct { d *disk.Disk; hard api.Hard; entries []api.Entry; segments []wal.segment }
instance : TAgg Tryz.prog 91 5 := ⟨by kernel_rfl, by kernel_rfl⟩
instance : FOff Tryz.prog 91 0 0 := ⟨0, by kernel_rfl⟩
instance : FOff Tryz.prog 91 1 1 := ⟨1, by kernel_rfl⟩
instance : FOff Tryz.prog 91 2 3 := ⟨0, by kernel_rfl⟩
instance : FOff Tryz.prog 91 3 4 := ⟨0, by kernel_rfl⟩
instance : TPlaces Tryz.prog 91 [(0, 1), (1, 2), (3, 1), (4, 1)] := ⟨Tryz.prog.fieldsOf 91, by kernel_rfl, by kernel_rfl, by kernel_rfl⟩
instance : TZero Tryz.prog 91 (.agg #[.pointer none, .int .i64 0, .int .i64 0, .slice none 0 0, .slice none 0 0]) := ⟨by kernel_rfl⟩
instance : ESize Tryz.prog 91 5 72 := ⟨by kernel_rfl⟩
-- 92: wal.Log
instance : TAgg Tryz.prog 92 5 := ⟨by kernel_rfl, by kernel_rfl⟩
instance : FOff Tryz.prog 92 0 0 := ⟨0, by kernel_rfl⟩
instance : FOff Tryz.prog 92 1 1 := ⟨1, by kernel_rfl⟩
instance : FOff Tryz.prog 92 2 3 := ⟨0, by kernel_rfl⟩
instance : FOff Tryz.prog 92 3 4 := ⟨0, by kernel_rfl⟩
instance : TPlaces Tryz.prog 92 [(0, 1), (1, 2), (3, 1), (4, 1)] := ⟨Tryz.prog.fieldsOf 92, by kernel_rfl, by kernel_rfl, by kernel_rfl⟩
instance : TZero Tryz.prog 92 (.agg #[.pointer none, .int .i64 0, .int .i64 0, .slice none 0 0, .slice none 0 0]) := ⟨by kernel_rfl⟩
instance : ESize Tryz.prog 92 5 72 := ⟨by kernel_rfl⟩
-- 93: struct { number int; size int; top int }
instance : TAgg Tryz.prog 93 3 := ⟨by kernel_rfl, by kernel_rfl⟩
instance : FOff Tryz.prog 93 0 0 := ⟨0, by kernel_rfl⟩
instance : FOff Tryz.prog 93 1 1 := ⟨0, by kernel_rfl⟩
instance : FOff Tryz.prog 93 2 2 := ⟨0, by kernel_rfl⟩
instance : TPlaces Tryz.prog 93 [(0, 1), (1, 1), (2, 1)] := ⟨Tryz.prog.fieldsOf 93, by kernel_rfl, by kernel_rfl, by kernel_rfl⟩
instance : TFlatK Tryz.prog 93 [.int .i64, .int .i64, .int .i64] := { u := by kernel_rfl, s := by kernel_rfl, g := by kernel_rfl, f := by kernel_rfl, k := by kernel_rfl }
instance : TZero Tryz.prog 93 (.agg #[.int .i64 0, .int .i64 0, .int .i64 0]) := ⟨by kernel_rfl⟩
instance : ESize Tryz.prog 93 3 24 := ⟨by kernel_rfl⟩
-- 94: wal.segment
instance : TAgg Tryz.prog 94 3 := ⟨by kernel_rfl, by kernel_rfl⟩
instance : FOff Tryz.prog 94 0 0 := ⟨0, by kernel_rfl⟩
instance : FOff Tryz.prog 94 1 1 := ⟨0, by kernel_rfl⟩
instance : FOff Tryz.prog 94 2 2 := ⟨0, by kernel_rfl⟩
instance : TPlaces Tryz.prog 94 [(0, 1), (1, 1), (2, 1)] := ⟨Tryz.prog.fieldsOf 94, by kernel_rfl, by kernel_rfl, by kernel_rfl⟩
instance : TFlatK Tryz.prog 94 [.int .i64, .int .i64, .int .i64] := { u := by kernel_rfl, s := by kernel_rfl, g := by kernel_rfl, f := by kernel_rfl, k := by kernel_rfl }
instance : TZero Tryz.prog 94 (.agg #[.int .i64 0, .int .i64 0, .int .i64 0]) := ⟨by kernel_rfl⟩
instance : ESize Tryz.prog 94 3 24 := ⟨by kernel_rfl⟩
-- 95: func() string
instance : TSc Tryz.prog 95 := ⟨by kernel_rfl, by kernel_rfl⟩
instance : TZero Tryz.prog 95 (.nilFunc) := ⟨by kernel_rfl⟩
instance : ESize Tryz.prog 95 1 8 := ⟨by kernel_rfl⟩
-- 96: func([]api.Entry) []api.Entry
instance : TSc Tryz.prog 96 := ⟨by kernel_rfl, by kernel_rfl⟩
instance : TZero Tryz.prog 96 (.nilFunc) := ⟨by kernel_rfl⟩
instance : ESize Tryz.prog 96 1 8 := ⟨by kernel_rfl⟩
-- 98: func(string) (string, api.Errno)
instance : TSc Tryz.prog 98 := ⟨by kernel_rfl, by kernel_rfl⟩
instance : TZero Tryz.prog 98 (.nilFunc) := ⟨by kernel_rfl⟩
instance : ESize Tryz.prog 98 1 8 := ⟨by kernel_rfl⟩
-- 99: struct { bytes string; synced int }
instance : TAgg Tryz.prog 99 2 := ⟨by kernel_rfl, by kernel_rfl⟩
instance : FOff Tryz.prog 99 0 0 := ⟨0, by kernel_rfl⟩
instance : FOff Tryz.prog 99 1 1 := ⟨0, by kernel_rfl⟩
instance : TPlaces Tryz.prog 99 [(0, 1), (1, 1)] := ⟨Tryz.prog.fieldsOf 99, by kernel_rfl, by kernel_rfl, by kernel_rfl⟩
instance : TFlatK Tryz.prog 99 [.str, .int .i64] := { u := by kernel_rfl, s := by kernel_rfl, g := by kernel_rfl, f := by kernel_rfl, k := by kernel_rfl }
instance : TZero Tryz.prog 99 (.agg #[.string ⟨#[]⟩, .int .i64 0]) := ⟨by kernel_rfl⟩
instance : ESize Tryz.prog 99 2 24 := ⟨by kernel_rfl⟩
-- 100: disk.file
instance : TAgg Tryz.prog 100 2 := ⟨by kernel_rfl, by kernel_rfl⟩
instance : FOff Tryz.prog 100 0 0 := ⟨0, by kernel_rfl⟩
instance : FOff Tryz.prog 100 1 1 := ⟨0, by kernel_rfl⟩
instance : TPlaces Tryz.prog 100 [(0, 1), (1, 1)] := ⟨Tryz.prog.fieldsOf 100, by kernel_rfl, by kernel_rfl, by kernel_rfl⟩
instance : TFlatK Tryz.prog 100 [.str, .int .i64] := { u := by kernel_rfl, s := by kernel_rfl, g := by kernel_rfl, f := by kernel_rfl, k := by kernel_rfl }
instance : TZero Tryz.prog 100 (.agg #[.string ⟨#[]⟩, .int .i64 0]) := ⟨by kernel_rfl⟩
instance : ESize Tryz.prog 100 2 24 := ⟨by kernel_rfl⟩
-- 101: func([]int, int) int
instance : TSc Tryz.prog 101 := ⟨by kernel_rfl, by kernel_rfl⟩
instance : TZero Tryz.prog 101 (.nilFunc) := ⟨by kernel_rfl⟩
instance : ESize Tryz.prog 101 1 8 := ⟨by kernel_rfl⟩
-- 102: []uint8
instance : TSc Tryz.prog 102 := ⟨by kernel_rfl, by kernel_rfl⟩
instance : TSlice Tryz.prog 102 5 := ⟨by kernel_rfl⟩
instance : TZero Tryz.prog 102 (.slice none 0 0) := ⟨by kernel_rfl⟩
instance : ESize Tryz.prog 102 1 24 := ⟨by kernel_rfl⟩
-- 103: func([]int)
instance : TSc Tryz.prog 103 := ⟨by kernel_rfl, by kernel_rfl⟩
instance : TZero Tryz.prog 103 (.nilFunc) := ⟨by kernel_rfl⟩
instance : ESize Tryz.prog 103 1 8 := ⟨by kernel_rfl⟩
-- 104: func(api.Hard, bool, ...string) api.Errno
instance : TSc Tryz.prog 104 := ⟨by kernel_rfl, by kernel_rfl⟩
instance : TZero Tryz.prog 104 (.nilFunc) := ⟨by kernel_rfl⟩
instance : ESize Tryz.prog 104 1 8 := ⟨by kernel_rfl⟩
-- 105: func(bool) api.Errno
instance : TSc Tryz.prog 105 := ⟨by kernel_rfl, by kernel_rfl⟩
instance : TZero Tryz.prog 105 (.nilFunc) := ⟨by kernel_rfl⟩
instance : ESize Tryz.prog 105 1 8 := ⟨by kernel_rfl⟩
-- 106: func([]api.Entry, api.Entry) []api.Entry
instance : TSc Tryz.prog 106 := ⟨by kernel_rfl, by kernel_rfl⟩
instance : TZero Tryz.prog 106 (.nilFunc) := ⟨by kernel_rfl⟩
instance : ESize Tryz.prog 106 1 8 := ⟨by kernel_rfl⟩
-- 107: func(string) api.Errno
instance : TSc Tryz.prog 107 := ⟨by kernel_rfl, by kernel_rfl⟩
instance : TZero Tryz.prog 107 (.nilFunc) := ⟨by kernel_rfl⟩
instance : ESize Tryz.prog 107 1 8 := ⟨by kernel_rfl⟩
-- 108: func([]wal.segment) []wal.segment
instance : TSc Tryz.prog 108 := ⟨by kernel_rfl, by kernel_rfl⟩
instance : TZero Tryz.prog 108 (.nilFunc) := ⟨by kernel_rfl⟩
instance : ESize Tryz.prog 108 1 8 := ⟨by kernel_rfl⟩
-- 109: func([]api.Entry, func(api.Entry) bool) bool
instance : TSc Tryz.prog 109 := ⟨by kernel_rfl, by kernel_rfl⟩
instance : TZero Tryz.prog 109 (.nilFunc) := ⟨by kernel_rfl⟩
instance : ESize Tryz.prog 109 1 8 := ⟨by kernel_rfl⟩
-- 110: func(api.Entry) bool
instance : TSc Tryz.prog 110 := ⟨by kernel_rfl, by kernel_rfl⟩
instance : TZero Tryz.prog 110 (.nilFunc) := ⟨by kernel_rfl⟩
instance : ESize Tryz.prog 110 1 8 := ⟨by kernel_rfl⟩
-- 111: func(api.Entry) string
instance : TSc Tryz.prog 111 := ⟨by kernel_rfl, by kernel_rfl⟩
instance : TZero Tryz.prog 111 (.nilFunc) := ⟨by kernel_rfl⟩
instance : ESize Tryz.prog 111 1 8 := ⟨by kernel_rfl⟩
-- 112: func(api.Entry)
instance : TSc Tryz.prog 112 := ⟨by kernel_rfl, by kernel_rfl⟩
instance : TZero Tryz.prog 112 (.nilFunc) := ⟨by kernel_rfl⟩
instance : ESize Tryz.prog 112 1 8 := ⟨by kernel_rfl⟩
-- 113: func(...int) string
instance : TSc Tryz.prog 113 := ⟨by kernel_rfl, by kernel_rfl⟩
instance : TZero Tryz.prog 113 (.nilFunc) := ⟨by kernel_rfl⟩
instance : ESize Tryz.prog 113 1 8 := ⟨by kernel_rfl⟩
-- 114: func(string, string) api.Errno
instance : TSc Tryz.prog 114 := ⟨by kernel_rfl, by kernel_rfl⟩
instance : TZero Tryz.prog 114 (.nilFunc) := ⟨by kernel_rfl⟩
instance : ESize Tryz.prog 114 1 8 := ⟨by kernel_rfl⟩
-- 115: func(kioskref3.Record) string
instance : TSc Tryz.prog 115 := ⟨by kernel_rfl, by kernel_rfl⟩
instance : TZero Tryz.prog 115 (.nilFunc) := ⟨by kernel_rfl⟩
instance : ESize Tryz.prog 115 1 8 := ⟨by kernel_rfl⟩
-- 116: struct { Kind int; Hard api.Hard; Entry api.Entry }
instance : TAgg Tryz.prog 116 7 := ⟨by kernel_rfl, by kernel_rfl⟩
instance : FOff Tryz.prog 116 0 0 := ⟨0, by kernel_rfl⟩
instance : FOff Tryz.prog 116 1 1 := ⟨1, by kernel_rfl⟩
instance : FOff Tryz.prog 116 2 3 := ⟨3, by kernel_rfl⟩
instance : TPlaces Tryz.prog 116 [(0, 1), (1, 2), (3, 4)] := ⟨Tryz.prog.fieldsOf 116, by kernel_rfl, by kernel_rfl, by kernel_rfl⟩
instance : TZero Tryz.prog 116 (.agg #[.int .i64 0, .int .i64 0, .int .i64 0, .int .i64 0, .int .i64 0, .int .i64 0, .string ⟨#[]⟩]) := ⟨by kernel_rfl⟩
instance : ESize Tryz.prog 116 7 64 := ⟨by kernel_rfl⟩
-- 117: kioskref3.Record
instance : TAgg Tryz.prog 117 7 := ⟨by kernel_rfl, by kernel_rfl⟩
instance : FOff Tryz.prog 117 0 0 := ⟨0, by kernel_rfl⟩
instance : FOff Tryz.prog 117 1 1 := ⟨1, by kernel_rfl⟩
instance : FOff Tryz.prog 117 2 3 := ⟨3, by kernel_rfl⟩
instance : TPlaces Tryz.prog 117 [(0, 1), (1, 2), (3, 4)] := ⟨Tryz.prog.fieldsOf 117, by kernel_rfl, by kernel_rfl, by kernel_rfl⟩
instance : TZero Tryz.prog 117 (.agg #[.int .i64 0, .int .i64 0, .int .i64 0, .int .i64 0, .int .i64 0, .int .i64 0, .string ⟨#[]⟩]) := ⟨by kernel_rfl⟩
instance : ESize Tryz.prog 117 7 64 := ⟨by kernel_rfl⟩
-- 118: []kioskref3.Record
instance : TSc Tryz.prog 118 := ⟨by kernel_rfl, by kernel_rfl⟩
instance : TSlice Tryz.prog 118 117 := ⟨by kernel_rfl⟩
instance : TZero Tryz.prog 118 (.slice none 0 0) := ⟨by kernel_rfl⟩
instance : ESize Tryz.prog 118 1 24 := ⟨by kernel_rfl⟩
-- 120: func(string) ([]kioskref3.Record, int, api.Errno)
instance : TSc Tryz.prog 120 := ⟨by kernel_rfl, by kernel_rfl⟩
instance : TZero Tryz.prog 120 (.nilFunc) := ⟨by kernel_rfl⟩
instance : ESize Tryz.prog 120 1 8 := ⟨by kernel_rfl⟩
-- 121: func(kioskref3.Record)
instance : TSc Tryz.prog 121 := ⟨by kernel_rfl, by kernel_rfl⟩
instance : TZero Tryz.prog 121 (.nilFunc) := ⟨by kernel_rfl⟩
instance : ESize Tryz.prog 121 1 8 := ⟨by kernel_rfl⟩
-- 122: func(string, int) api.Errno
instance : TSc Tryz.prog 122 := ⟨by kernel_rfl, by kernel_rfl⟩
instance : TZero Tryz.prog 122 (.nilFunc) := ⟨by kernel_rfl⟩
instance : ESize Tryz.prog 122 1 8 := ⟨by kernel_rfl⟩
-- 123: func(iter.Seq[string]) []string
instance : TSc Tryz.prog 123 := ⟨by kernel_rfl, by kernel_rfl⟩
instance : TZero Tryz.prog 123 (.nilFunc) := ⟨by kernel_rfl⟩
instance : ESize Tryz.prog 123 1 8 := ⟨by kernel_rfl⟩
-- 124: func(func(string) bool)
instance : TSc Tryz.prog 124 := ⟨by kernel_rfl, by kernel_rfl⟩
instance : TZero Tryz.prog 124 (.nilFunc) := ⟨by kernel_rfl⟩
instance : ESize Tryz.prog 124 1 8 := ⟨by kernel_rfl⟩
-- 125: iter.Seq[string]
instance : TSc Tryz.prog 125 := ⟨by kernel_rfl, by kernel_rfl⟩
instance : TZero Tryz.prog 125 (.nilFunc) := ⟨by kernel_rfl⟩
instance : ESize Tryz.prog 125 1 8 := ⟨by kernel_rfl⟩
-- 126: func(map[string]disk.file) iter.Seq[string]
instance : TSc Tryz.prog 126 := ⟨by kernel_rfl, by kernel_rfl⟩
instance : TZero Tryz.prog 126 (.nilFunc) := ⟨by kernel_rfl⟩
instance : ESize Tryz.prog 126 1 8 := ⟨by kernel_rfl⟩
-- 128: func(string) (disk.file, api.Errno)
instance : TSc Tryz.prog 128 := ⟨by kernel_rfl, by kernel_rfl⟩
instance : TZero Tryz.prog 128 (.nilFunc) := ⟨by kernel_rfl⟩
instance : ESize Tryz.prog 128 1 8 := ⟨by kernel_rfl⟩
-- 130: func(string, string) (string, bool)
instance : TSc Tryz.prog 130 := ⟨by kernel_rfl, by kernel_rfl⟩
instance : TZero Tryz.prog 130 (.nilFunc) := ⟨by kernel_rfl⟩
instance : ESize Tryz.prog 130 1 8 := ⟨by kernel_rfl⟩
-- 131: func(string, string) string
instance : TSc Tryz.prog 131 := ⟨by kernel_rfl, by kernel_rfl⟩
instance : TZero Tryz.prog 131 (.nilFunc) := ⟨by kernel_rfl⟩
instance : ESize Tryz.prog 131 1 8 := ⟨by kernel_rfl⟩
-- 132: interface { Error() string }
instance : TSc Tryz.prog 132 := ⟨by kernel_rfl, by kernel_rfl⟩
instance : TZero Tryz.prog 132 (.nilIface) := ⟨by kernel_rfl⟩
instance : ESize Tryz.prog 132 1 16 := ⟨by kernel_rfl⟩
-- 133: error
instance : TSc Tryz.prog 133 := ⟨by kernel_rfl, by kernel_rfl⟩
instance : TZero Tryz.prog 133 (.nilIface) := ⟨by kernel_rfl⟩
instance : ESize Tryz.prog 133 1 16 := ⟨by kernel_rfl⟩
-- 135: func(string) (int, error)
instance : TSc Tryz.prog 135 := ⟨by kernel_rfl, by kernel_rfl⟩
instance : TZero Tryz.prog 135 (.nilFunc) := ⟨by kernel_rfl⟩
instance : ESize Tryz.prog 135 1 8 := ⟨by kernel_rfl⟩
-- 136: func([]int, int, int, int)
instance : TSc Tryz.prog 136 := ⟨by kernel_rfl, by kernel_rfl⟩
instance : TZero Tryz.prog 136 (.nilFunc) := ⟨by kernel_rfl⟩
instance : ESize Tryz.prog 136 1 8 := ⟨by kernel_rfl⟩
-- 137: func(uint) int
instance : TSc Tryz.prog 137 := ⟨by kernel_rfl, by kernel_rfl⟩
instance : TZero Tryz.prog 137 (.nilFunc) := ⟨by kernel_rfl⟩
instance : ESize Tryz.prog 137 1 8 := ⟨by kernel_rfl⟩
-- 138: uint
instance : TSc Tryz.prog 138 := ⟨by kernel_rfl, by kernel_rfl⟩
instance : TInt Tryz.prog 138 .u64 := ⟨by kernel_rfl⟩
instance : TZero Tryz.prog 138 (.int .u64 0) := ⟨by kernel_rfl⟩
instance : ESize Tryz.prog 138 1 8 := ⟨by kernel_rfl⟩
-- 139: *wal.segment
instance : TSc Tryz.prog 139 := ⟨by kernel_rfl, by kernel_rfl⟩
instance : TPtr Tryz.prog 139 94 := ⟨by kernel_rfl⟩
instance : TZero Tryz.prog 139 (.pointer none) := ⟨by kernel_rfl⟩
instance : ESize Tryz.prog 139 1 8 := ⟨by kernel_rfl⟩
-- 140: func(api.Hard) string
instance : TSc Tryz.prog 140 := ⟨by kernel_rfl, by kernel_rfl⟩
instance : TZero Tryz.prog 140 (.nilFunc) := ⟨by kernel_rfl⟩
instance : ESize Tryz.prog 140 1 8 := ⟨by kernel_rfl⟩
-- 141: *strings.Builder
instance : TSc Tryz.prog 141 := ⟨by kernel_rfl, by kernel_rfl⟩
instance : TPtr Tryz.prog 141 143 := ⟨by kernel_rfl⟩
instance : TZero Tryz.prog 141 (.pointer none) := ⟨by kernel_rfl⟩
instance : ESize Tryz.prog 141 1 8 := ⟨by kernel_rfl⟩
-- 142: struct { addr *strings.Builder; buf []uint8 }
instance : TAgg Tryz.prog 142 2 := ⟨by kernel_rfl, by kernel_rfl⟩
instance : FOff Tryz.prog 142 0 0 := ⟨0, by kernel_rfl⟩
instance : FOff Tryz.prog 142 1 1 := ⟨0, by kernel_rfl⟩
instance : TPlaces Tryz.prog 142 [(0, 1), (1, 1)] := ⟨Tryz.prog.fieldsOf 142, by kernel_rfl, by kernel_rfl, by kernel_rfl⟩
instance : TZero Tryz.prog 142 (.agg #[.pointer none, .slice none 0 0]) := ⟨by kernel_rfl⟩
instance : ESize Tryz.prog 142 2 32 := ⟨by kernel_rfl⟩
-- 143: strings.Builder
instance : TAgg Tryz.prog 143 2 := ⟨by kernel_rfl, by kernel_rfl⟩
instance : FOff Tryz.prog 143 0 0 := ⟨0, by kernel_rfl⟩
instance : FOff Tryz.prog 143 1 1 := ⟨0, by kernel_rfl⟩
instance : TPlaces Tryz.prog 143 [(0, 1), (1, 1)] := ⟨Tryz.prog.fieldsOf 143, by kernel_rfl, by kernel_rfl, by kernel_rfl⟩
instance : TZero Tryz.prog 143 (.agg #[.pointer none, .slice none 0 0]) := ⟨by kernel_rfl⟩
instance : ESize Tryz.prog 143 2 32 := ⟨by kernel_rfl⟩
-- 145: func(string) (string, int, api.Errno)
instance : TSc Tryz.prog 145 := ⟨by kernel_rfl, by kernel_rfl⟩
instance : TZero Tryz.prog 145 (.nilFunc) := ⟨by kernel_rfl⟩
instance : ESize Tryz.prog 145 1 8 := ⟨by kernel_rfl⟩
-- 146: func(string) bool
instance : TSc Tryz.prog 146 := ⟨by kernel_rfl, by kernel_rfl⟩
instance : TZero Tryz.prog 146 (.nilFunc) := ⟨by kernel_rfl⟩
instance : ESize Tryz.prog 146 1 8 := ⟨by kernel_rfl⟩
-- 147: func(string, func(disk.file) api.Errno, func(disk.file)) api.Errno
instance : TSc Tryz.prog 147 := ⟨by kernel_rfl, by kernel_rfl⟩
instance : TZero Tryz.prog 147 (.nilFunc) := ⟨by kernel_rfl⟩
instance : ESize Tryz.prog 147 1 8 := ⟨by kernel_rfl⟩
-- 148: func(disk.file) api.Errno
instance : TSc Tryz.prog 148 := ⟨by kernel_rfl, by kernel_rfl⟩
instance : TZero Tryz.prog 148 (.nilFunc) := ⟨by kernel_rfl⟩
instance : ESize Tryz.prog 148 1 8 := ⟨by kernel_rfl⟩
-- 149: func(disk.file)
instance : TSc Tryz.prog 149 := ⟨by kernel_rfl, by kernel_rfl⟩
instance : TZero Tryz.prog 149 (.nilFunc) := ⟨by kernel_rfl⟩
instance : ESize Tryz.prog 149 1 8 := ⟨by kernel_rfl⟩
-- 150: func([]api.Entry, func(api.Entry) bool) int
instance : TSc Tryz.prog 150 := ⟨by kernel_rfl, by kernel_rfl⟩
instance : TZero Tryz.prog 150 (.nilFunc) := ⟨by kernel_rfl⟩
instance : ESize Tryz.prog 150 1 8 := ⟨by kernel_rfl⟩
-- 151: func(...string) string
instance : TSc Tryz.prog 151 := ⟨by kernel_rfl, by kernel_rfl⟩
instance : TZero Tryz.prog 151 (.nilFunc) := ⟨by kernel_rfl⟩
instance : ESize Tryz.prog 151 1 8 := ⟨by kernel_rfl⟩
-- 152: func([]string, string) bool
instance : TSc Tryz.prog 152 := ⟨by kernel_rfl, by kernel_rfl⟩
instance : TZero Tryz.prog 152 (.nilFunc) := ⟨by kernel_rfl⟩
instance : ESize Tryz.prog 152 1 8 := ⟨by kernel_rfl⟩
-- 153: *codec.writer
instance : TSc Tryz.prog 153 := ⟨by kernel_rfl, by kernel_rfl⟩
instance : TPtr Tryz.prog 153 155 := ⟨by kernel_rfl⟩
instance : TZero Tryz.prog 153 (.pointer none) := ⟨by kernel_rfl⟩
instance : ESize Tryz.prog 153 1 8 := ⟨by kernel_rfl⟩
-- 154: struct { strings.Builder }
instance : TAgg Tryz.prog 154 2 := ⟨by kernel_rfl, by kernel_rfl⟩
instance : FOff Tryz.prog 154 0 0 := ⟨1, by kernel_rfl⟩
instance : TPlaces Tryz.prog 154 [(0, 2)] := ⟨Tryz.prog.fieldsOf 154, by kernel_rfl, by kernel_rfl, by kernel_rfl⟩
instance : TZero Tryz.prog 154 (.agg #[.pointer none, .slice none 0 0]) := ⟨by kernel_rfl⟩
instance : ESize Tryz.prog 154 2 32 := ⟨by kernel_rfl⟩
-- 155: codec.writer
instance : TAgg Tryz.prog 155 2 := ⟨by kernel_rfl, by kernel_rfl⟩
instance : FOff Tryz.prog 155 0 0 := ⟨1, by kernel_rfl⟩
instance : TPlaces Tryz.prog 155 [(0, 2)] := ⟨Tryz.prog.fieldsOf 155, by kernel_rfl, by kernel_rfl, by kernel_rfl⟩
instance : TZero Tryz.prog 155 (.agg #[.pointer none, .slice none 0 0]) := ⟨by kernel_rfl⟩
instance : ESize Tryz.prog 155 2 32 := ⟨by kernel_rfl⟩
-- 156: func([]int, func(int))
instance : TSc Tryz.prog 156 := ⟨by kernel_rfl, by kernel_rfl⟩
instance : TZero Tryz.prog 156 (.nilFunc) := ⟨by kernel_rfl⟩
instance : ESize Tryz.prog 156 1 8 := ⟨by kernel_rfl⟩
-- 158: func(string) (int, api.Errno)
instance : TSc Tryz.prog 158 := ⟨by kernel_rfl, by kernel_rfl⟩
instance : TZero Tryz.prog 158 (.nilFunc) := ⟨by kernel_rfl⟩
instance : ESize Tryz.prog 158 1 8 := ⟨by kernel_rfl⟩
-- 160: func(string) (kioskref3.Record, bool)
instance : TSc Tryz.prog 160 := ⟨by kernel_rfl, by kernel_rfl⟩
instance : TZero Tryz.prog 160 (.nilFunc) := ⟨by kernel_rfl⟩
instance : ESize Tryz.prog 160 1 8 := ⟨by kernel_rfl⟩
-- 161: func(int) []kioskref2.File
instance : TSc Tryz.prog 161 := ⟨by kernel_rfl, by kernel_rfl⟩
instance : TZero Tryz.prog 161 (.nilFunc) := ⟨by kernel_rfl⟩
instance : ESize Tryz.prog 161 1 8 := ⟨by kernel_rfl⟩
-- 162: func(uint32) string
instance : TSc Tryz.prog 162 := ⟨by kernel_rfl, by kernel_rfl⟩
instance : TZero Tryz.prog 162 (.nilFunc) := ⟨by kernel_rfl⟩
instance : ESize Tryz.prog 162 1 8 := ⟨by kernel_rfl⟩
-- 163: uint32
instance : TSc Tryz.prog 163 := ⟨by kernel_rfl, by kernel_rfl⟩
instance : TInt Tryz.prog 163 .u32 := ⟨by kernel_rfl⟩
instance : TZero Tryz.prog 163 (.int .u32 0) := ⟨by kernel_rfl⟩
instance : ESize Tryz.prog 163 1 4 := ⟨by kernel_rfl⟩
-- 164: func(string) uint32
instance : TSc Tryz.prog 164 := ⟨by kernel_rfl, by kernel_rfl⟩
instance : TZero Tryz.prog 164 (.nilFunc) := ⟨by kernel_rfl⟩
instance : ESize Tryz.prog 164 1 8 := ⟨by kernel_rfl⟩
-- 165: func(string) string
instance : TSc Tryz.prog 165 := ⟨by kernel_rfl, by kernel_rfl⟩
instance : TZero Tryz.prog 165 (.nilFunc) := ⟨by kernel_rfl⟩
instance : ESize Tryz.prog 165 1 8 := ⟨by kernel_rfl⟩
-- 166: func([]string)
instance : TSc Tryz.prog 166 := ⟨by kernel_rfl, by kernel_rfl⟩
instance : TZero Tryz.prog 166 (.nilFunc) := ⟨by kernel_rfl⟩
instance : ESize Tryz.prog 166 1 8 := ⟨by kernel_rfl⟩
-- 168: func(string, uint8) string
instance : TSc Tryz.prog 168 := ⟨by kernel_rfl, by kernel_rfl⟩
instance : TZero Tryz.prog 168 (.nilFunc) := ⟨by kernel_rfl⟩
instance : ESize Tryz.prog 168 1 8 := ⟨by kernel_rfl⟩
-- 172: func(string) (strings.asciiSet, bool)
instance : TSc Tryz.prog 172 := ⟨by kernel_rfl, by kernel_rfl⟩
instance : TZero Tryz.prog 172 (.nilFunc) := ⟨by kernel_rfl⟩
instance : ESize Tryz.prog 172 1 8 := ⟨by kernel_rfl⟩
-- 173: func(string, *strings.asciiSet) string
instance : TSc Tryz.prog 173 := ⟨by kernel_rfl, by kernel_rfl⟩
instance : TZero Tryz.prog 173 (.nilFunc) := ⟨by kernel_rfl⟩
instance : ESize Tryz.prog 173 1 8 := ⟨by kernel_rfl⟩
-- 174: *strings.asciiSet
instance : TSc Tryz.prog 174 := ⟨by kernel_rfl, by kernel_rfl⟩
instance : TPtr Tryz.prog 174 170 := ⟨by kernel_rfl⟩
instance : TZero Tryz.prog 174 (.pointer none) := ⟨by kernel_rfl⟩
instance : ESize Tryz.prog 174 1 8 := ⟨by kernel_rfl⟩
-- 175: func(string, string, int, int, error) error
instance : TSc Tryz.prog 175 := ⟨by kernel_rfl, by kernel_rfl⟩
instance : TZero Tryz.prog 175 (.nilFunc) := ⟨by kernel_rfl⟩
instance : ESize Tryz.prog 175 1 8 := ⟨by kernel_rfl⟩
-- 176: func([]int, int, int)
instance : TSc Tryz.prog 176 := ⟨by kernel_rfl, by kernel_rfl⟩
instance : TZero Tryz.prog 176 (.nilFunc) := ⟨by kernel_rfl⟩
instance : ESize Tryz.prog 176 1 8 := ⟨by kernel_rfl⟩
-- 177: slices.sortedHint
instance : TSc Tryz.prog 177 := ⟨by kernel_rfl, by kernel_rfl⟩
instance : TInt Tryz.prog 177 .i64 := ⟨by kernel_rfl⟩
instance : TZero Tryz.prog 177 (.int .i64 0) := ⟨by kernel_rfl⟩
instance : ESize Tryz.prog 177 1 8 := ⟨by kernel_rfl⟩
-- 179: func([]int, int, int) (int, slices.sortedHint)
instance : TSc Tryz.prog 179 := ⟨by kernel_rfl, by kernel_rfl⟩
instance : TZero Tryz.prog 179 (.nilFunc) := ⟨by kernel_rfl⟩
instance : ESize Tryz.prog 179 1 8 := ⟨by kernel_rfl⟩
-- 180: func([]int, int, int) bool
instance : TSc Tryz.prog 180 := ⟨by kernel_rfl, by kernel_rfl⟩
instance : TZero Tryz.prog 180 (.nilFunc) := ⟨by kernel_rfl⟩
instance : ESize Tryz.prog 180 1 8 := ⟨by kernel_rfl⟩
-- 181: func(int, int) bool
instance : TSc Tryz.prog 181 := ⟨by kernel_rfl, by kernel_rfl⟩
instance : TZero Tryz.prog 181 (.nilFunc) := ⟨by kernel_rfl⟩
instance : ESize Tryz.prog 181 1 8 := ⟨by kernel_rfl⟩
-- 182: func([]int, int, int, int) int
instance : TSc Tryz.prog 182 := ⟨by kernel_rfl, by kernel_rfl⟩
instance : TZero Tryz.prog 182 (.nilFunc) := ⟨by kernel_rfl⟩
instance : ESize Tryz.prog 182 1 8 := ⟨by kernel_rfl⟩
-- 184: func([]int, int, int, int) (int, bool)
instance : TSc Tryz.prog 184 := ⟨by kernel_rfl, by kernel_rfl⟩
instance : TZero Tryz.prog 184 (.nilFunc) := ⟨by kernel_rfl⟩
instance : ESize Tryz.prog 184 1 8 := ⟨by kernel_rfl⟩
-- 185: func(uint32) int
instance : TSc Tryz.prog 185 := ⟨by kernel_rfl, by kernel_rfl⟩
instance : TZero Tryz.prog 185 (.nilFunc) := ⟨by kernel_rfl⟩
instance : ESize Tryz.prog 185 1 8 := ⟨by kernel_rfl⟩
-- 186: func(uint64) int
instance : TSc Tryz.prog 186 := ⟨by kernel_rfl, by kernel_rfl⟩
instance : TZero Tryz.prog 186 (.nilFunc) := ⟨by kernel_rfl⟩
instance : ESize Tryz.prog 186 1 8 := ⟨by kernel_rfl⟩
-- 187: uint64
instance : TSc Tryz.prog 187 := ⟨by kernel_rfl, by kernel_rfl⟩
instance : TInt Tryz.prog 187 .u64 := ⟨by kernel_rfl⟩
instance : TZero Tryz.prog 187 (.int .u64 0) := ⟨by kernel_rfl⟩
instance : ESize Tryz.prog 187 1 8 := ⟨by kernel_rfl⟩
-- 188: func(uint32, string) uint32
instance : TSc Tryz.prog 188 := ⟨by kernel_rfl, by kernel_rfl⟩
instance : TZero Tryz.prog 188 (.nilFunc) := ⟨by kernel_rfl⟩
instance : ESize Tryz.prog 188 1 8 := ⟨by kernel_rfl⟩
-- 189: *uint8
instance : TSc Tryz.prog 189 := ⟨by kernel_rfl, by kernel_rfl⟩
instance : TPtr Tryz.prog 189 5 := ⟨by kernel_rfl⟩
instance : TZero Tryz.prog 189 (.pointer none) := ⟨by kernel_rfl⟩
instance : ESize Tryz.prog 189 1 8 := ⟨by kernel_rfl⟩
-- 191: func(string) (int, string, bool)
instance : TSc Tryz.prog 191 := ⟨by kernel_rfl, by kernel_rfl⟩
instance : TZero Tryz.prog 191 (.nilFunc) := ⟨by kernel_rfl⟩
instance : ESize Tryz.prog 191 1 8 := ⟨by kernel_rfl⟩
-- 193: func(string, int) ([]int, string, bool)
instance : TSc Tryz.prog 193 := ⟨by kernel_rfl, by kernel_rfl⟩
instance : TZero Tryz.prog 193 (.nilFunc) := ⟨by kernel_rfl⟩
instance : ESize Tryz.prog 193 1 8 := ⟨by kernel_rfl⟩
-- 195: func(string) (string, string, bool)
instance : TSc Tryz.prog 195 := ⟨by kernel_rfl, by kernel_rfl⟩
instance : TZero Tryz.prog 195 (.nilFunc) := ⟨by kernel_rfl⟩
instance : ESize Tryz.prog 195 1 8 := ⟨by kernel_rfl⟩
-- 196: func([]string, func(string))
instance : TSc Tryz.prog 196 := ⟨by kernel_rfl, by kernel_rfl⟩
instance : TZero Tryz.prog 196 (.nilFunc) := ⟨by kernel_rfl⟩
instance : ESize Tryz.prog 196 1 8 := ⟨by kernel_rfl⟩
-- 197: func(string)
instance : TSc Tryz.prog 197 := ⟨by kernel_rfl, by kernel_rfl⟩
instance : TZero Tryz.prog 197 (.nilFunc) := ⟨by kernel_rfl⟩
instance : ESize Tryz.prog 197 1 8 := ⟨by kernel_rfl⟩
-- 198: func([]string, string) int
instance : TSc Tryz.prog 198 := ⟨by kernel_rfl, by kernel_rfl⟩
instance : TZero Tryz.prog 198 (.nilFunc) := ⟨by kernel_rfl⟩
instance : ESize Tryz.prog 198 1 8 := ⟨by kernel_rfl⟩
-- 199: func(uint64)
instance : TSc Tryz.prog 199 := ⟨by kernel_rfl, by kernel_rfl⟩
instance : TZero Tryz.prog 199 (.nilFunc) := ⟨by kernel_rfl⟩
instance : ESize Tryz.prog 199 1 8 := ⟨by kernel_rfl⟩
-- 200: func(string) (int, bool)
instance : TSc Tryz.prog 200 := ⟨by kernel_rfl, by kernel_rfl⟩
instance : TZero Tryz.prog 200 (.nilFunc) := ⟨by kernel_rfl⟩
instance : ESize Tryz.prog 200 1 8 := ⟨by kernel_rfl⟩
-- 201: func(kioskref2.File) []kioskref2.File
instance : TSc Tryz.prog 201 := ⟨by kernel_rfl, by kernel_rfl⟩
instance : TZero Tryz.prog 201 (.nilFunc) := ⟨by kernel_rfl⟩
instance : ESize Tryz.prog 201 1 8 := ⟨by kernel_rfl⟩
-- 202: [4]int
instance : TAgg Tryz.prog 202 4 := ⟨by kernel_rfl, by kernel_rfl⟩
instance : TZero Tryz.prog 202 (.agg #[.int .i64 0, .int .i64 0, .int .i64 0, .int .i64 0]) := ⟨by kernel_rfl⟩
instance : ESize Tryz.prog 202 4 32 := ⟨by kernel_rfl⟩
-- 203: func(int) uint64
instance : TSc Tryz.prog 203 := ⟨by kernel_rfl, by kernel_rfl⟩
instance : TZero Tryz.prog 203 (.nilFunc) := ⟨by kernel_rfl⟩
instance : ESize Tryz.prog 203 1 8 := ⟨by kernel_rfl⟩
-- 204: func(int64, int) string
instance : TSc Tryz.prog 204 := ⟨by kernel_rfl, by kernel_rfl⟩
instance : TZero Tryz.prog 204 (.nilFunc) := ⟨by kernel_rfl⟩
instance : ESize Tryz.prog 204 1 8 := ⟨by kernel_rfl⟩
-- 205: func([]string, iter.Seq[string]) []string
instance : TSc Tryz.prog 205 := ⟨by kernel_rfl, by kernel_rfl⟩
instance : TZero Tryz.prog 205 (.nilFunc) := ⟨by kernel_rfl⟩
instance : ESize Tryz.prog 205 1 8 := ⟨by kernel_rfl⟩
-- 206: func([]string, int, int, int)
instance : TSc Tryz.prog 206 := ⟨by kernel_rfl, by kernel_rfl⟩
instance : TZero Tryz.prog 206 (.nilFunc) := ⟨by kernel_rfl⟩
instance : ESize Tryz.prog 206 1 8 := ⟨by kernel_rfl⟩
-- 207: func(string, string) bool
instance : TSc Tryz.prog 207 := ⟨by kernel_rfl, by kernel_rfl⟩
instance : TZero Tryz.prog 207 (.nilFunc) := ⟨by kernel_rfl⟩
instance : ESize Tryz.prog 207 1 8 := ⟨by kernel_rfl⟩
-- 208: func(uint8) bool
instance : TSc Tryz.prog 208 := ⟨by kernel_rfl, by kernel_rfl⟩
instance : TZero Tryz.prog 208 (.nilFunc) := ⟨by kernel_rfl⟩
instance : ESize Tryz.prog 208 1 8 := ⟨by kernel_rfl⟩
-- 210: func(string) (int32, int)
instance : TSc Tryz.prog 210 := ⟨by kernel_rfl, by kernel_rfl⟩
instance : TZero Tryz.prog 210 (.nilFunc) := ⟨by kernel_rfl⟩
instance : ESize Tryz.prog 210 1 8 := ⟨by kernel_rfl⟩
-- 211: func(string, int32) bool
instance : TSc Tryz.prog 211 := ⟨by kernel_rfl, by kernel_rfl⟩
instance : TZero Tryz.prog 211 (.nilFunc) := ⟨by kernel_rfl⟩
instance : ESize Tryz.prog 211 1 8 := ⟨by kernel_rfl⟩
-- 212: strconv.Error
instance : TSc Tryz.prog 212 := ⟨by kernel_rfl, by kernel_rfl⟩
instance : TInt Tryz.prog 212 .i64 := ⟨by kernel_rfl⟩
instance : TZero Tryz.prog 212 (.int .i64 0) := ⟨by kernel_rfl⟩
instance : ESize Tryz.prog 212 1 8 := ⟨by kernel_rfl⟩
-- 214: func(string, int, int) (int64, error)
instance : TSc Tryz.prog 214 := ⟨by kernel_rfl, by kernel_rfl⟩
instance : TZero Tryz.prog 214 (.nilFunc) := ⟨by kernel_rfl⟩
instance : ESize Tryz.prog 214 1 8 := ⟨by kernel_rfl⟩
-- 215: *strconv.NumError
instance : TSc Tryz.prog 215 := ⟨by kernel_rfl, by kernel_rfl⟩
instance : TPtr Tryz.prog 215 241 := ⟨by kernel_rfl⟩
instance : TZero Tryz.prog 215 (.pointer none) := ⟨by kernel_rfl⟩
instance : ESize Tryz.prog 215 1 8 := ⟨by kernel_rfl⟩
-- 216: func(string, string) *strconv.NumError
instance : TSc Tryz.prog 216 := ⟨by kernel_rfl, by kernel_rfl⟩
instance : TZero Tryz.prog 216 (.nilFunc) := ⟨by kernel_rfl⟩
instance : ESize Tryz.prog 216 1 8 := ⟨by kernel_rfl⟩
-- 217: func(string, string, int) *strconv.NumError
instance : TSc Tryz.prog 217 := ⟨by kernel_rfl, by kernel_rfl⟩
instance : TZero Tryz.prog 217 (.nilFunc) := ⟨by kernel_rfl⟩
instance : ESize Tryz.prog 217 1 8 := ⟨by kernel_rfl⟩
-- 218: slices.xorshift
instance : TSc Tryz.prog 218 := ⟨by kernel_rfl, by kernel_rfl⟩
instance : TInt Tryz.prog 218 .u64 := ⟨by kernel_rfl⟩
instance : TZero Tryz.prog 218 (.int .u64 0) := ⟨by kernel_rfl⟩
instance : ESize Tryz.prog 218 1 8 := ⟨by kernel_rfl⟩
-- 219: func(int) uint
instance : TSc Tryz.prog 219 := ⟨by kernel_rfl, by kernel_rfl⟩
instance : TZero Tryz.prog 219 (.nilFunc) := ⟨by kernel_rfl⟩
instance : ESize Tryz.prog 219 1 8 := ⟨by kernel_rfl⟩
-- 220: func() uint64
instance : TSc Tryz.prog 220 := ⟨by kernel_rfl, by kernel_rfl⟩
instance : TZero Tryz.prog 220 (.nilFunc) := ⟨by kernel_rfl⟩
instance : ESize Tryz.prog 220 1 8 := ⟨by kernel_rfl⟩
-- 221: func([]int, int, *int) int
instance : TSc Tryz.prog 221 := ⟨by kernel_rfl, by kernel_rfl⟩
instance : TZero Tryz.prog 221 (.nilFunc) := ⟨by kernel_rfl⟩
instance : ESize Tryz.prog 221 1 8 := ⟨by kernel_rfl⟩
-- 222: *int
instance : TSc Tryz.prog 222 := ⟨by kernel_rfl, by kernel_rfl⟩
instance : TPtr Tryz.prog 222 3 := ⟨by kernel_rfl⟩
instance : TZero Tryz.prog 222 (.pointer none) := ⟨by kernel_rfl⟩
instance : ESize Tryz.prog 222 1 8 := ⟨by kernel_rfl⟩
-- 223: func([]int, int, int, int, *int) int
instance : TSc Tryz.prog 223 := ⟨by kernel_rfl, by kernel_rfl⟩
instance : TZero Tryz.prog 223 (.nilFunc) := ⟨by kernel_rfl⟩
instance : ESize Tryz.prog 223 1 8 := ⟨by kernel_rfl⟩
-- 224: func(int) bool
instance : TSc Tryz.prog 224 := ⟨by kernel_rfl, by kernel_rfl⟩
instance : TZero Tryz.prog 224 (.nilFunc) := ⟨by kernel_rfl⟩
instance : ESize Tryz.prog 224 1 8 := ⟨by kernel_rfl⟩
-- 226: func(unsafe.Pointer) unsafe.Pointer
instance : TSc Tryz.prog 226 := ⟨by kernel_rfl, by kernel_rfl⟩
instance : TZero Tryz.prog 226 (.nilFunc) := ⟨by kernel_rfl⟩
instance : ESize Tryz.prog 226 1 8 := ⟨by kernel_rfl⟩
-- 227: func(uint8) error
instance : TSc Tryz.prog 227 := ⟨by kernel_rfl, by kernel_rfl⟩
instance : TZero Tryz.prog 227 (.nilFunc) := ⟨by kernel_rfl⟩
instance : ESize Tryz.prog 227 1 8 := ⟨by kernel_rfl⟩
-- 228: [24]uint8
instance : TAgg Tryz.prog 228 24 := ⟨by kernel_rfl, by kernel_rfl⟩
instance : TZero Tryz.prog 228 (.agg #[.int .u8 0, .int .u8 0, .int .u8 0, .int .u8 0, .int .u8 0, .int .u8 0, .int .u8 0, .int .u8 0, .int .u8 0, .int .u8 0, .int .u8 0, .int .u8 0, .int .u8 0, .int .u8 0, .int .u8 0, .int .u8 0, .int .u8 0, .int .u8 0, .int .u8 0, .int .u8 0, .int .u8 0, .int .u8 0, .int .u8 0, .int .u8 0]) := ⟨by kernel_rfl⟩
instance : ESize Tryz.prog 228 24 24 := ⟨by kernel_rfl⟩
-- 229: func([]uint8, uint64)
instance : TSc Tryz.prog 229 := ⟨by kernel_rfl, by kernel_rfl⟩
instance : TZero Tryz.prog 229 (.nilFunc) := ⟨by kernel_rfl⟩
instance : ESize Tryz.prog 229 1 8 := ⟨by kernel_rfl⟩
-- 231: func([]uint8, uint64, int, bool, bool) ([]uint8, string)
instance : TSc Tryz.prog 231 := ⟨by kernel_rfl, by kernel_rfl⟩
instance : TZero Tryz.prog 231 (.nilFunc) := ⟨by kernel_rfl⟩
instance : ESize Tryz.prog 231 1 8 := ⟨by kernel_rfl⟩
-- 232: func([]string, int, int)
instance : TSc Tryz.prog 232 := ⟨by kernel_rfl, by kernel_rfl⟩
instance : TZero Tryz.prog 232 (.nilFunc) := ⟨by kernel_rfl⟩
instance : ESize Tryz.prog 232 1 8 := ⟨by kernel_rfl⟩
-- 233: func([]string, int, int) (int, slices.sortedHint)
instance : TSc Tryz.prog 233 := ⟨by kernel_rfl, by kernel_rfl⟩
instance : TZero Tryz.prog 233 (.nilFunc) := ⟨by kernel_rfl⟩
instance : ESize Tryz.prog 233 1 8 := ⟨by kernel_rfl⟩
-- 234: func([]string, int, int) bool
instance : TSc Tryz.prog 234 := ⟨by kernel_rfl, by kernel_rfl⟩
instance : TZero Tryz.prog 234 (.nilFunc) := ⟨by kernel_rfl⟩
instance : ESize Tryz.prog 234 1 8 := ⟨by kernel_rfl⟩
-- 235: func([]string, int, int, int) int
instance : TSc Tryz.prog 235 := ⟨by kernel_rfl, by kernel_rfl⟩
instance : TZero Tryz.prog 235 (.nilFunc) := ⟨by kernel_rfl⟩
instance : ESize Tryz.prog 235 1 8 := ⟨by kernel_rfl⟩
-- 236: func([]string, int, int, int) (int, bool)
instance : TSc Tryz.prog 236 := ⟨by kernel_rfl, by kernel_rfl⟩
instance : TZero Tryz.prog 236 (.nilFunc) := ⟨by kernel_rfl⟩
instance : ESize Tryz.prog 236 1 8 := ⟨by kernel_rfl⟩
-- 237: func(string, int32) int
instance : TSc Tryz.prog 237 := ⟨by kernel_rfl, by kernel_rfl⟩
instance : TZero Tryz.prog 237 (.nilFunc) := ⟨by kernel_rfl⟩
instance : ESize Tryz.prog 237 1 8 := ⟨by kernel_rfl⟩
-- 239: func(string, int, int) (uint64, error)
instance : TSc Tryz.prog 239 := ⟨by kernel_rfl, by kernel_rfl⟩
instance : TZero Tryz.prog 239 (.nilFunc) := ⟨by kernel_rfl⟩
instance : ESize Tryz.prog 239 1 8 := ⟨by kernel_rfl⟩
-- 240: struct { Func string; Num string; Err error }
instance : TAgg Tryz.prog 240 3 := ⟨by kernel_rfl, by kernel_rfl⟩
instance : FOff Tryz.prog 240 0 0 := ⟨0, by kernel_rfl⟩
instance : FOff Tryz.prog 240 1 1 := ⟨0, by kernel_rfl⟩
instance : FOff Tryz.prog 240 2 2 := ⟨0, by kernel_rfl⟩
instance : TPlaces Tryz.prog 240 [(0, 1), (1, 1), (2, 1)] := ⟨Tryz.prog.fieldsOf 240, by kernel_rfl, by kernel_rfl, by kernel_rfl⟩
instance : TZero Tryz.prog 240 (.agg #[.string ⟨#[]⟩, .string ⟨#[]⟩, .nilIface]) := ⟨by kernel_rfl⟩
instance : ESize Tryz.prog 240 3 48 := ⟨by kernel_rfl⟩
-- 241: strconv.NumError
instance : TAgg Tryz.prog 241 3 := ⟨by kernel_rfl, by kernel_rfl⟩
instance : FOff Tryz.prog 241 0 0 := ⟨0, by kernel_rfl⟩
instance : FOff Tryz.prog 241 1 1 := ⟨0, by kernel_rfl⟩
instance : FOff Tryz.prog 241 2 2 := ⟨0, by kernel_rfl⟩
instance : TPlaces Tryz.prog 241 [(0, 1), (1, 1), (2, 1)] := ⟨Tryz.prog.fieldsOf 241, by kernel_rfl, by kernel_rfl, by kernel_rfl⟩
instance : TZero Tryz.prog 241 (.agg #[.string ⟨#[]⟩, .string ⟨#[]⟩, .nilIface]) := ⟨by kernel_rfl⟩
instance : ESize Tryz.prog 241 3 48 := ⟨by kernel_rfl⟩
-- 242: func(string) error
instance : TSc Tryz.prog 242 := ⟨by kernel_rfl, by kernel_rfl⟩
instance : TZero Tryz.prog 242 (.nilFunc) := ⟨by kernel_rfl⟩
instance : ESize Tryz.prog 242 1 8 := ⟨by kernel_rfl⟩
-- 243: *slices.xorshift
instance : TSc Tryz.prog 243 := ⟨by kernel_rfl, by kernel_rfl⟩
instance : TPtr Tryz.prog 243 218 := ⟨by kernel_rfl⟩
instance : TZero Tryz.prog 243 (.pointer none) := ⟨by kernel_rfl⟩
instance : ESize Tryz.prog 243 1 8 := ⟨by kernel_rfl⟩
-- 245: func([]int, int, int, *int) (int, int)
instance : TSc Tryz.prog 245 := ⟨by kernel_rfl, by kernel_rfl⟩
instance : TZero Tryz.prog 245 (.nilFunc) := ⟨by kernel_rfl⟩
instance : ESize Tryz.prog 245 1 8 := ⟨by kernel_rfl⟩
-- 246: func(int) int
instance : TSc Tryz.prog 246 := ⟨by kernel_rfl, by kernel_rfl⟩
instance : TZero Tryz.prog 246 (.nilFunc) := ⟨by kernel_rfl⟩
instance : ESize Tryz.prog 246 1 8 := ⟨by kernel_rfl⟩
-- 247: func(bool) int
instance : TSc Tryz.prog 247 := ⟨by kernel_rfl, by kernel_rfl⟩
instance : TZero Tryz.prog 247 (.nilFunc) := ⟨by kernel_rfl⟩
instance : ESize Tryz.prog 247 1 8 := ⟨by kernel_rfl⟩
-- 248: [20]uint64
instance : TAgg Tryz.prog 248 20 := ⟨by kernel_rfl, by kernel_rfl⟩
instance : TZero Tryz.prog 248 (.agg #[.int .u64 0, .int .u64 0, .int .u64 0, .int .u64 0, .int .u64 0, .int .u64 0, .int .u64 0, .int .u64 0, .int .u64 0, .int .u64 0, .int .u64 0, .int .u64 0, .int .u64 0, .int .u64 0, .int .u64 0, .int .u64 0, .int .u64 0, .int .u64 0, .int .u64 0, .int .u64 0]) := ⟨by kernel_rfl⟩
instance : ESize Tryz.prog 248 20 160 := ⟨by kernel_rfl⟩
-- 250: func([]string, int, *int) int
instance : TSc Tryz.prog 250 := ⟨by kernel_rfl, by kernel_rfl⟩
instance : TZero Tryz.prog 250 (.nilFunc) := ⟨by kernel_rfl⟩
instance : ESize Tryz.prog 250 1 8 := ⟨by kernel_rfl⟩
-- 251: func([]string, int, int, int, *int) int
instance : TSc Tryz.prog 251 := ⟨by kernel_rfl, by kernel_rfl⟩
instance : TZero Tryz.prog 251 (.nilFunc) := ⟨by kernel_rfl⟩
instance : ESize Tryz.prog 251 1 8 := ⟨by kernel_rfl⟩
-- 253: struct { lo uint8; hi uint8 }
instance : TAgg Tryz.prog 253 2 := ⟨by kernel_rfl, by kernel_rfl⟩
instance : FOff Tryz.prog 253 0 0 := ⟨0, by kernel_rfl⟩
instance : FOff Tryz.prog 253 1 1 := ⟨0, by kernel_rfl⟩
instance : TPlaces Tryz.prog 253 [(0, 1), (1, 1)] := ⟨Tryz.prog.fieldsOf 253, by kernel_rfl, by kernel_rfl, by kernel_rfl⟩
instance : TFlatK Tryz.prog 253 [.int .u8, .int .u8] := { u := by kernel_rfl, s := by kernel_rfl, g := by kernel_rfl, f := by kernel_rfl, k := by kernel_rfl }
instance : TZero Tryz.prog 253 (.agg #[.int .u8 0, .int .u8 0]) := ⟨by kernel_rfl⟩
instance : ESize Tryz.prog 253 2 2 := ⟨by kernel_rfl⟩
-- 254: utf8.acceptRange
instance : TAgg Tryz.prog 254 2 := ⟨by kernel_rfl, by kernel_rfl⟩
instance : FOff Tryz.prog 254 0 0 := ⟨0, by kernel_rfl⟩
instance : FOff Tryz.prog 254 1 1 := ⟨0, by kernel_rfl⟩
instance : TPlaces Tryz.prog 254 [(0, 1), (1, 1)] := ⟨Tryz.prog.fieldsOf 254, by kernel_rfl, by kernel_rfl, by kernel_rfl⟩
instance : TFlatK Tryz.prog 254 [.int .u8, .int .u8] := { u := by kernel_rfl, s := by kernel_rfl, g := by kernel_rfl, f := by kernel_rfl, k := by kernel_rfl }
instance : TZero Tryz.prog 254 (.agg #[.int .u8 0, .int .u8 0]) := ⟨by kernel_rfl⟩
instance : ESize Tryz.prog 254 2 2 := ⟨by kernel_rfl⟩
-- 255: [16]utf8.acceptRange
instance : TAgg Tryz.prog 255 32 := ⟨by kernel_rfl, by kernel_rfl⟩
instance : TZero Tryz.prog 255 (.agg #[.int .u8 0, .int .u8 0, .int .u8 0, .int .u8 0, .int .u8 0, .int .u8 0, .int .u8 0, .int .u8 0, .int .u8 0, .int .u8 0, .int .u8 0, .int .u8 0, .int .u8 0, .int .u8 0, .int .u8 0, .int .u8 0, .int .u8 0, .int .u8 0, .int .u8 0, .int .u8 0, .int .u8 0, .int .u8 0, .int .u8 0, .int .u8 0, .int .u8 0, .int .u8 0, .int .u8 0, .int .u8 0, .int .u8 0, .int .u8 0, .int .u8 0, .int .u8 0]) := ⟨by kernel_rfl⟩
instance : ESize Tryz.prog 255 32 32 := ⟨by kernel_rfl⟩
-- 256: func(string, uint8) int
instance : TSc Tryz.prog 256 := ⟨by kernel_rfl, by kernel_rfl⟩
instance : TZero Tryz.prog 256 (.nilFunc) := ⟨by kernel_rfl⟩
instance : ESize Tryz.prog 256 1 8 := ⟨by kernel_rfl⟩
-- 257: func(int32) bool
instance : TSc Tryz.prog 257 := ⟨by kernel_rfl, by kernel_rfl⟩
instance : TZero Tryz.prog 257 (.nilFunc) := ⟨by kernel_rfl⟩
instance : ESize Tryz.prog 257 1 8 := ⟨by kernel_rfl⟩
-- 258: func(string, string) int
instance : TSc Tryz.prog 258 := ⟨by kernel_rfl, by kernel_rfl⟩
instance : TZero Tryz.prog 258 (.nilFunc) := ⟨by kernel_rfl⟩
instance : ESize Tryz.prog 258 1 8 := ⟨by kernel_rfl⟩
-- 259: func(uint8) uint8
instance : TSc Tryz.prog 259 := ⟨by kernel_rfl, by kernel_rfl⟩
instance : TZero Tryz.prog 259 (.nilFunc) := ⟨by kernel_rfl⟩
instance : ESize Tryz.prog 259 1 8 := ⟨by kernel_rfl⟩
-- 260: *errors.errorString
instance : TSc Tryz.prog 260 := ⟨by kernel_rfl, by kernel_rfl⟩
instance : TPtr Tryz.prog 260 262 := ⟨by kernel_rfl⟩
instance : TZero Tryz.prog 260 (.pointer none) := ⟨by kernel_rfl⟩
instance : ESize Tryz.prog 260 1 8 := ⟨by kernel_rfl⟩
-- 261: struct { s string }
instance : TAgg Tryz.prog 261 1 := ⟨by kernel_rfl, by kernel_rfl⟩
instance : FOff Tryz.prog 261 0 0 := ⟨0, by kernel_rfl⟩
instance : TPlaces Tryz.prog 261 [(0, 1)] := ⟨Tryz.prog.fieldsOf 261, by kernel_rfl, by kernel_rfl, by kernel_rfl⟩
instance : TFlatK Tryz.prog 261 [.str] := { u := by kernel_rfl, s := by kernel_rfl, g := by kernel_rfl, f := by kernel_rfl, k := by kernel_rfl }
instance : TZero Tryz.prog 261 (.agg #[.string ⟨#[]⟩]) := ⟨by kernel_rfl⟩
instance : ESize Tryz.prog 261 1 16 := ⟨by kernel_rfl⟩
-- 262: errors.errorString
instance : TAgg Tryz.prog 262 1 := ⟨by kernel_rfl, by kernel_rfl⟩
instance : FOff Tryz.prog 262 0 0 := ⟨0, by kernel_rfl⟩
instance : TPlaces Tryz.prog 262 [(0, 1)] := ⟨Tryz.prog.fieldsOf 262, by kernel_rfl, by kernel_rfl, by kernel_rfl⟩
instance : TFlatK Tryz.prog 262 [.str] := { u := by kernel_rfl, s := by kernel_rfl, g := by kernel_rfl, f := by kernel_rfl, k := by kernel_rfl }
instance : TZero Tryz.prog 262 (.agg #[.string ⟨#[]⟩]) := ⟨by kernel_rfl⟩
instance : ESize Tryz.prog 262 1 16 := ⟨by kernel_rfl⟩
-- 263: func([]string, int, int, *int) (int, int)
instance : TSc Tryz.prog 263 := ⟨by kernel_rfl, by kernel_rfl⟩
instance : TZero Tryz.prog 263 (.nilFunc) := ⟨by kernel_rfl⟩
instance : ESize Tryz.prog 263 1 8 := ⟨by kernel_rfl⟩
-- 264: [32]uint8
instance : TAgg Tryz.prog 264 32 := ⟨by kernel_rfl, by kernel_rfl⟩
instance : TZero Tryz.prog 264 (.agg #[.int .u8 0, .int .u8 0, .int .u8 0, .int .u8 0, .int .u8 0, .int .u8 0, .int .u8 0, .int .u8 0, .int .u8 0, .int .u8 0, .int .u8 0, .int .u8 0, .int .u8 0, .int .u8 0, .int .u8 0, .int .u8 0, .int .u8 0, .int .u8 0, .int .u8 0, .int .u8 0, .int .u8 0, .int .u8 0, .int .u8 0, .int .u8 0, .int .u8 0, .int .u8 0, .int .u8 0, .int .u8 0, .int .u8 0, .int .u8 0, .int .u8 0, .int .u8 0]) := ⟨by kernel_rfl⟩
instance : ESize Tryz.prog 264 32 32 := ⟨by kernel_rfl⟩
-- 266: struct { _interface *abi.Type; concrete *abi.Type; asserted *abi.Type; missingMethod string }
instance : TAgg Tryz.prog 266 4 := ⟨by kernel_rfl, by kernel_rfl⟩
instance : FOff Tryz.prog 266 0 0 := ⟨0, by kernel_rfl⟩
instance : FOff Tryz.prog 266 1 1 := ⟨0, by kernel_rfl⟩
instance : FOff Tryz.prog 266 2 2 := ⟨0, by kernel_rfl⟩
instance : FOff Tryz.prog 266 3 3 := ⟨0, by kernel_rfl⟩
instance : TPlaces Tryz.prog 266 [(0, 1), (1, 1), (2, 1), (3, 1)] := ⟨Tryz.prog.fieldsOf 266, by kernel_rfl, by kernel_rfl, by kernel_rfl⟩
instance : TZero Tryz.prog 266 (.agg #[.pointer none, .pointer none, .pointer none, .string ⟨#[]⟩]) := ⟨by kernel_rfl⟩
instance : ESize Tryz.prog 266 4 40 := ⟨by kernel_rfl⟩
-- 267: runtime.TypeAssertionError
instance : TAgg Tryz.prog 267 4 := ⟨by kernel_rfl, by kernel_rfl⟩
instance : FOff Tryz.prog 267 0 0 := ⟨0, by kernel_rfl⟩
instance : FOff Tryz.prog 267 1 1 := ⟨0, by kernel_rfl⟩
instance : FOff Tryz.prog 267 2 2 := ⟨0, by kernel_rfl⟩
instance : FOff Tryz.prog 267 3 3 := ⟨0, by kernel_rfl⟩
instance : TPlaces Tryz.prog 267 [(0, 1), (1, 1), (2, 1), (3, 1)] := ⟨Tryz.prog.fieldsOf 267, by kernel_rfl, by kernel_rfl, by kernel_rfl⟩
instance : TZero Tryz.prog 267 (.agg #[.pointer none, .pointer none, .pointer none, .string ⟨#[]⟩]) := ⟨by kernel_rfl⟩
instance : ESize Tryz.prog 267 4 40 := ⟨by kernel_rfl⟩
-- 268: [0]*runtime.PanicNilError
instance : TAgg Tryz.prog 268 0 := ⟨by kernel_rfl, by kernel_rfl⟩
instance : TZero Tryz.prog 268 (.agg #[]) := ⟨by kernel_rfl⟩
instance : ESize Tryz.prog 268 0 0 := ⟨by kernel_rfl⟩
-- 269: struct { _ [0]*runtime.PanicNilError }
instance : TAgg Tryz.prog 269 0 := ⟨by kernel_rfl, by kernel_rfl⟩
instance : TPlaces Tryz.prog 269 [(0, 0)] := ⟨Tryz.prog.fieldsOf 269, by kernel_rfl, by kernel_rfl, by kernel_rfl⟩
instance : TZero Tryz.prog 269 (.agg #[]) := ⟨by kernel_rfl⟩
instance : ESize Tryz.prog 269 0 0 := ⟨by kernel_rfl⟩
-- 270: runtime.PanicNilError
instance : TAgg Tryz.prog 270 0 := ⟨by kernel_rfl, by kernel_rfl⟩
instance : TPlaces Tryz.prog 270 [(0, 0)] := ⟨Tryz.prog.fieldsOf 270, by kernel_rfl, by kernel_rfl, by kernel_rfl⟩
instance : TZero Tryz.prog 270 (.agg #[]) := ⟨by kernel_rfl⟩
instance : ESize Tryz.prog 270 0 0 := ⟨by kernel_rfl⟩
-- 271: abi.TFlag
instance : TSc Tryz.prog 271 := ⟨by kernel_rfl, by kernel_rfl⟩
instance : TInt Tryz.prog 271 .u8 := ⟨by kernel_rfl⟩
instance : TZero Tryz.prog 271 (.int .u8 0) := ⟨by kernel_rfl⟩
instance : ESize Tryz.prog 271 1 1 := ⟨by kernel_rfl⟩
-- 272: abi.Kind
instance : TSc Tryz.prog 272 := ⟨by kernel_rfl, by kernel_rfl⟩
instance : TInt Tryz.prog 272 .u8 := ⟨by kernel_rfl⟩
instance : TZero Tryz.prog 272 (.int .u8 0) := ⟨by kernel_rfl⟩
instance : ESize Tryz.prog 272 1 1 := ⟨by kernel_rfl⟩
-- 273: func(unsafe.Pointer, unsafe.Pointer) bool
instance : TSc Tryz.prog 273 := ⟨by kernel_rfl, by kernel_rfl⟩
instance : TZero Tryz.prog 273 (.nilFunc) := ⟨by kernel_rfl⟩
instance : ESize Tryz.prog 273 1 8 := ⟨by kernel_rfl⟩
-- 274: abi.NameOff
instance : TSc Tryz.prog 274 := ⟨by kernel_rfl, by kernel_rfl⟩
instance : TInt Tryz.prog 274 .i32 := ⟨by kernel_rfl⟩
instance : TZero Tryz.prog 274 (.int .i32 0) := ⟨by kernel_rfl⟩
instance : ESize Tryz.prog 274 1 4 := ⟨by kernel_rfl⟩
-- 275: abi.TypeOff
instance : TSc Tryz.prog 275 := ⟨by kernel_rfl, by kernel_rfl⟩
instance : TInt Tryz.prog 275 .i32 := ⟨by kernel_rfl⟩
instance : TZero Tryz.prog 275 (.int .i32 0) := ⟨by kernel_rfl⟩
instance : ESize Tryz.prog 275 1 4 := ⟨by kernel_rfl⟩
-- 276: struct { Size_ uintptr; PtrBytes uintptr; Hash uint32; TFlag abi.TFlag; Align_ uint8; FieldAlign_ ui
instance : TAgg Tryz.prog 276 11 := ⟨by kernel_rfl, by kernel_rfl⟩
instance : FOff Tryz.prog 276 0 0 := ⟨0, by kernel_rfl⟩
instance : FOff Tryz.prog 276 1 1 := ⟨0, by kernel_rfl⟩
instance : FOff Tryz.prog 276 2 2 := ⟨0, by kernel_rfl⟩
instance : FOff Tryz.prog 276 3 3 := ⟨0, by kernel_rfl⟩
instance : FOff Tryz.prog 276 4 4 := ⟨0, by kernel_rfl⟩
instance : FOff Tryz.prog 276 5 5 := ⟨0, by kernel_rfl⟩
instance : FOff Tryz.prog 276 6 6 := ⟨0, by kernel_rfl⟩
instance : FOff Tryz.prog 276 7 7 := ⟨0, by kernel_rfl⟩
instance : FOff Tryz.prog 276 8 8 := ⟨0, by kernel_rfl⟩
instance : FOff Tryz.prog 276 9 9 := ⟨0, by kernel_rfl⟩
instance : FOff Tryz.prog 276 10 10 := ⟨0, by kernel_rfl⟩
instance : TPlaces Tryz.prog 276 [(0, 1), (1, 1), (2, 1), (3, 1), (4, 1), (5, 1), (6, 1), (7, 1), (8, 1), (9, 1), (10, 1)] := ⟨Tryz.prog.fieldsOf 276, by kernel_rfl, by kernel_rfl, by kernel_rfl⟩
instance : TZero Tryz.prog 276 (.agg #[.int .u64 0, .int .u64 0, .int .u32 0, .int .u8 0, .int .u8 0, .int .u8 0, .int .u8 0, .nilFunc, .pointer none, .int .i32 0, .int .i32 0]) := ⟨by kernel_rfl⟩
instance : ESize Tryz.prog 276 11 48 := ⟨by kernel_rfl⟩
-- 277: abi.Type
instance : TAgg Tryz.prog 277 11 := ⟨by kernel_rfl, by kernel_rfl⟩
instance : FOff Tryz.prog 277 0 0 := ⟨0, by kernel_rfl⟩
instance : FOff Tryz.prog 277 1 1 := ⟨0, by kernel_rfl⟩
instance : FOff Tryz.prog 277 2 2 := ⟨0, by kernel_rfl⟩
instance : FOff Tryz.prog 277 3 3 := ⟨0, by kernel_rfl⟩
instance : FOff Tryz.prog 277 4 4 := ⟨0, by kernel_rfl⟩
instance : FOff Tryz.prog 277 5 5 := ⟨0, by kernel_rfl⟩
instance : FOff Tryz.prog 277 6 6 := ⟨0, by kernel_rfl⟩
instance : FOff Tryz.prog 277 7 7 := ⟨0, by kernel_rfl⟩
instance : FOff Tryz.prog 277 8 8 := ⟨0, by kernel_rfl⟩
instance : FOff Tryz.prog 277 9 9 := ⟨0, by kernel_rfl⟩
instance : FOff Tryz.prog 277 10 10 := ⟨0, by kernel_rfl⟩
instance : TPlaces Tryz.prog 277 [(0, 1), (1, 1), (2, 1), (3, 1), (4, 1), (5, 1), (6, 1), (7, 1), (8, 1), (9, 1), (10, 1)] := ⟨Tryz.prog.fieldsOf 277, by kernel_rfl, by kernel_rfl, by kernel_rfl⟩
instance : TZero Tryz.prog 277 (.agg #[.int .u64 0, .int .u64 0, .int .u32 0, .int .u8 0, .int .u8 0, .int .u8 0, .int .u8 0, .nilFunc, .pointer none, .int .i32 0, .int .i32 0]) := ⟨by kernel_rfl⟩
instance : ESize Tryz.prog 277 11 48 := ⟨by kernel_rfl⟩
instance : IsFn Tryz.prog 2 := ⟨Tryz.f2, Tryz.func2, rfl, rfl⟩
instance : IsFn Tryz.prog 3 := ⟨Tryz.f3, Tryz.func3, rfl, rfl⟩
instance : IsFn Tryz.prog 4 := ⟨Tryz.f4, Tryz.func4, rfl, rfl⟩
instance : IsFn Tryz.prog 5 := ⟨Tryz.f5, Tryz.func5, rfl, rfl⟩
instance : IsFn Tryz.prog 6 := ⟨Tryz.f6, Tryz.func6, rfl, rfl⟩
instance : IsFn Tryz.prog 7 := ⟨Tryz.f7, Tryz.func7, rfl, rfl⟩
instance : IsFn Tryz.prog 8 := ⟨Tryz.f8, Tryz.func8, rfl, rfl⟩
instance : IsFn Tryz.prog 9 := ⟨Tryz.f9, Tryz.func9, rfl, rfl⟩
instance : IsFn Tryz.prog 10 := ⟨Tryz.f10, Tryz.func10, rfl, rfl⟩
instance : IsFn Tryz.prog 11 := ⟨Tryz.f11, Tryz.func11, rfl, rfl⟩
instance : IsFn Tryz.prog 12 := ⟨Tryz.f12, Tryz.func12, rfl, rfl⟩
instance : IsFn Tryz.prog 13 := ⟨Tryz.f13, Tryz.func13, rfl, rfl⟩
instance : IsFn Tryz.prog 14 := ⟨Tryz.f14, Tryz.func14, rfl, rfl⟩
instance : IsFn Tryz.prog 15 := ⟨Tryz.f15, Tryz.func15, rfl, rfl⟩
instance : IsFn Tryz.prog 16 := ⟨Tryz.f16, Tryz.func16, rfl, rfl⟩
instance : IsFn Tryz.prog 17 := ⟨Tryz.f17, Tryz.func17, rfl, rfl⟩
instance : IsFn Tryz.prog 18 := ⟨Tryz.f18, Tryz.func18, rfl, rfl⟩
instance : IsFn Tryz.prog 19 := ⟨Tryz.f19, Tryz.func19, rfl, rfl⟩
instance : IsFn Tryz.prog 20 := ⟨Tryz.f20, Tryz.func20, rfl, rfl⟩
instance : IsFn Tryz.prog 21 := ⟨Tryz.f21, Tryz.func21, rfl, rfl⟩
instance : IsFn Tryz.prog 22 := ⟨Tryz.f22, Tryz.func22, rfl, rfl⟩
instance : IsFn Tryz.prog 23 := ⟨Tryz.f23, Tryz.func23, rfl, rfl⟩
instance : IsFn Tryz.prog 24 := ⟨Tryz.f24, Tryz.func24, rfl, rfl⟩
instance : IsFn Tryz.prog 25 := ⟨Tryz.f25, Tryz.func25, rfl, rfl⟩
instance : IsFn Tryz.prog 26 := ⟨Tryz.f26, Tryz.func26, rfl, rfl⟩
instance : IsFn Tryz.prog 27 := ⟨Tryz.f27, Tryz.func27, rfl, rfl⟩
instance : IsFn Tryz.prog 28 := ⟨Tryz.f28, Tryz.func28, rfl, rfl⟩
instance : IsFn Tryz.prog 29 := ⟨Tryz.f29, Tryz.func29, rfl, rfl⟩
instance : IsFn Tryz.prog 30 := ⟨Tryz.f30, Tryz.func30, rfl, rfl⟩
instance : IsFn Tryz.prog 31 := ⟨Tryz.f31, Tryz.func31, rfl, rfl⟩
instance : IsFn Tryz.prog 32 := ⟨Tryz.f32, Tryz.func32, rfl, rfl⟩
instance : IsFn Tryz.prog 33 := ⟨Tryz.f33, Tryz.func33, rfl, rfl⟩
instance : IsFn Tryz.prog 34 := ⟨Tryz.f34, Tryz.func34, rfl, rfl⟩
instance : IsFn Tryz.prog 35 := ⟨Tryz.f35, Tryz.func35, rfl, rfl⟩
instance : IsFn Tryz.prog 36 := ⟨Tryz.f36, Tryz.func36, rfl, rfl⟩
instance : IsFn Tryz.prog 37 := ⟨Tryz.f37, Tryz.func37, rfl, rfl⟩
instance : IsFn Tryz.prog 38 := ⟨Tryz.f38, Tryz.func38, rfl, rfl⟩
instance : IsFn Tryz.prog 39 := ⟨Tryz.f39, Tryz.func39, rfl, rfl⟩
instance : IsFn Tryz.prog 40 := ⟨Tryz.f40, Tryz.func40, rfl, rfl⟩
instance : IsFn Tryz.prog 41 := ⟨Tryz.f41, Tryz.func41, rfl, rfl⟩
instance : IsFn Tryz.prog 42 := ⟨Tryz.f42, Tryz.func42, rfl, rfl⟩
instance : IsFn Tryz.prog 43 := ⟨Tryz.f43, Tryz.func43, rfl, rfl⟩
instance : IsFn Tryz.prog 44 := ⟨Tryz.f44, Tryz.func44, rfl, rfl⟩
instance : IsFn Tryz.prog 45 := ⟨Tryz.f45, Tryz.func45, rfl, rfl⟩
instance : IsFn Tryz.prog 46 := ⟨Tryz.f46, Tryz.func46, rfl, rfl⟩
instance : IsFn Tryz.prog 47 := ⟨Tryz.f47, Tryz.func47, rfl, rfl⟩
instance : IsFn Tryz.prog 48 := ⟨Tryz.f48, Tryz.func48, rfl, rfl⟩
instance : IsFn Tryz.prog 49 := ⟨Tryz.f49, Tryz.func49, rfl, rfl⟩
instance : IsFn Tryz.prog 50 := ⟨Tryz.f50, Tryz.func50, rfl, rfl⟩
instance : IsFn Tryz.prog 51 := ⟨Tryz.f51, Tryz.func51, rfl, rfl⟩
instance : IsFn Tryz.prog 52 := ⟨Tryz.f52, Tryz.func52, rfl, rfl⟩
instance : IsFn Tryz.prog 53 := ⟨Tryz.f53, Tryz.func53, rfl, rfl⟩
instance : IsFn Tryz.prog 54 := ⟨Tryz.f54, Tryz.func54, rfl, rfl⟩
instance : IsFn Tryz.prog 55 := ⟨Tryz.f55, Tryz.func55, rfl, rfl⟩
instance : IsFn Tryz.prog 56 := ⟨Tryz.f56, Tryz.func56, rfl, rfl⟩
instance : IsFn Tryz.prog 57 := ⟨Tryz.f57, Tryz.func57, rfl, rfl⟩
instance : IsFn Tryz.prog 58 := ⟨Tryz.f58, Tryz.func58, rfl, rfl⟩
instance : IsFn Tryz.prog 59 := ⟨Tryz.f59, Tryz.func59, rfl, rfl⟩
instance : IsFn Tryz.prog 60 := ⟨Tryz.f60, Tryz.func60, rfl, rfl⟩
instance : IsFn Tryz.prog 61 := ⟨Tryz.f61, Tryz.func61, rfl, rfl⟩
instance : IsFn Tryz.prog 62 := ⟨Tryz.f62, Tryz.func62, rfl, rfl⟩
instance : IsFn Tryz.prog 63 := ⟨Tryz.f63, Tryz.func63, rfl, rfl⟩
instance : IsFn Tryz.prog 64 := ⟨Tryz.f64, Tryz.func64, rfl, rfl⟩
instance : IsFn Tryz.prog 65 := ⟨Tryz.f65, Tryz.func65, rfl, rfl⟩
instance : IsFn Tryz.prog 66 := ⟨Tryz.f66, Tryz.func66, rfl, rfl⟩
instance : IsFn Tryz.prog 67 := ⟨Tryz.f67, Tryz.func67, rfl, rfl⟩
instance : IsFn Tryz.prog 68 := ⟨Tryz.f68, Tryz.func68, rfl, rfl⟩
instance : IsFn Tryz.prog 69 := ⟨Tryz.f69, Tryz.func69, rfl, rfl⟩
instance : IsFn Tryz.prog 70 := ⟨Tryz.f70, Tryz.func70, rfl, rfl⟩
instance : IsFn Tryz.prog 71 := ⟨Tryz.f71, Tryz.func71, rfl, rfl⟩
instance : IsFn Tryz.prog 72 := ⟨Tryz.f72, Tryz.func72, rfl, rfl⟩
instance : IsFn Tryz.prog 73 := ⟨Tryz.f73, Tryz.func73, rfl, rfl⟩
instance : IsFn Tryz.prog 74 := ⟨Tryz.f74, Tryz.func74, rfl, rfl⟩
instance : IsFn Tryz.prog 75 := ⟨Tryz.f75, Tryz.func75, rfl, rfl⟩
instance : IsFn Tryz.prog 76 := ⟨Tryz.f76, Tryz.func76, rfl, rfl⟩
instance : IsFn Tryz.prog 77 := ⟨Tryz.f77, Tryz.func77, rfl, rfl⟩
instance : IsFn Tryz.prog 78 := ⟨Tryz.f78, Tryz.func78, rfl, rfl⟩
instance : IsFn Tryz.prog 79 := ⟨Tryz.f79, Tryz.func79, rfl, rfl⟩
instance : IsFn Tryz.prog 80 := ⟨Tryz.f80, Tryz.func80, rfl, rfl⟩
instance : IsFn Tryz.prog 81 := ⟨Tryz.f81, Tryz.func81, rfl, rfl⟩
instance : IsFn Tryz.prog 82 := ⟨Tryz.f82, Tryz.func82, rfl, rfl⟩
instance : IsFn Tryz.prog 83 := ⟨Tryz.f83, Tryz.func83, rfl, rfl⟩
instance : IsFn Tryz.prog 84 := ⟨Tryz.f84, Tryz.func84, rfl, rfl⟩
instance : IsFn Tryz.prog 85 := ⟨Tryz.f85, Tryz.func85, rfl, rfl⟩
instance : IsFn Tryz.prog 86 := ⟨Tryz.f86, Tryz.func86, rfl, rfl⟩
instance : IsFn Tryz.prog 87 := ⟨Tryz.f87, Tryz.func87, rfl, rfl⟩
instance : IsFn Tryz.prog 88 := ⟨Tryz.f88, Tryz.func88, rfl, rfl⟩
instance : IsFn Tryz.prog 89 := ⟨Tryz.f89, Tryz.func89, rfl, rfl⟩
instance : IsFn Tryz.prog 90 := ⟨Tryz.f90, Tryz.func90, rfl, rfl⟩
instance : IsFn Tryz.prog 91 := ⟨Tryz.f91, Tryz.func91, rfl, rfl⟩
instance : IsFn Tryz.prog 92 := ⟨Tryz.f92, Tryz.func92, rfl, rfl⟩
instance : IsFn Tryz.prog 93 := ⟨Tryz.f93, Tryz.func93, rfl, rfl⟩
instance : IsFn Tryz.prog 94 := ⟨Tryz.f94, Tryz.func94, rfl, rfl⟩
instance : IsFn Tryz.prog 95 := ⟨Tryz.f95, Tryz.func95, rfl, rfl⟩
instance : IsFn Tryz.prog 96 := ⟨Tryz.f96, Tryz.func96, rfl, rfl⟩
instance : IsFn Tryz.prog 97 := ⟨Tryz.f97, Tryz.func97, rfl, rfl⟩
instance : IsFn Tryz.prog 98 := ⟨Tryz.f98, Tryz.func98, rfl, rfl⟩
instance : IsFn Tryz.prog 99 := ⟨Tryz.f99, Tryz.func99, rfl, rfl⟩
instance : IsFn Tryz.prog 100 := ⟨Tryz.f100, Tryz.func100, rfl, rfl⟩
instance : IsFn Tryz.prog 101 := ⟨Tryz.f101, Tryz.func101, rfl, rfl⟩
instance : IsFn Tryz.prog 102 := ⟨Tryz.f102, Tryz.func102, rfl, rfl⟩
instance : IsFn Tryz.prog 103 := ⟨Tryz.f103, Tryz.func103, rfl, rfl⟩
instance : IsFn Tryz.prog 104 := ⟨Tryz.f104, Tryz.func104, rfl, rfl⟩
instance : IsFn Tryz.prog 105 := ⟨Tryz.f105, Tryz.func105, rfl, rfl⟩
instance : IsFn Tryz.prog 106 := ⟨Tryz.f106, Tryz.func106, rfl, rfl⟩
instance : IsFn Tryz.prog 107 := ⟨Tryz.f107, Tryz.func107, rfl, rfl⟩
instance : IsFn Tryz.prog 108 := ⟨Tryz.f108, Tryz.func108, rfl, rfl⟩
instance : IsFn Tryz.prog 109 := ⟨Tryz.f109, Tryz.func109, rfl, rfl⟩
instance : IsFn Tryz.prog 110 := ⟨Tryz.f110, Tryz.func110, rfl, rfl⟩
instance : IsFn Tryz.prog 111 := ⟨Tryz.f111, Tryz.func111, rfl, rfl⟩
instance : IsFn Tryz.prog 112 := ⟨Tryz.f112, Tryz.func112, rfl, rfl⟩
instance : IsFn Tryz.prog 113 := ⟨Tryz.f113, Tryz.func113, rfl, rfl⟩
instance : IsFn Tryz.prog 114 := ⟨Tryz.f114, Tryz.func114, rfl, rfl⟩
instance : IsFn Tryz.prog 115 := ⟨Tryz.f115, Tryz.func115, rfl, rfl⟩
instance : IsFn Tryz.prog 116 := ⟨Tryz.f116, Tryz.func116, rfl, rfl⟩
instance : IsFn Tryz.prog 117 := ⟨Tryz.f117, Tryz.func117, rfl, rfl⟩
instance : IsFn Tryz.prog 118 := ⟨Tryz.f118, Tryz.func118, rfl, rfl⟩
instance : IsFn Tryz.prog 119 := ⟨Tryz.f119, Tryz.func119, rfl, rfl⟩
instance : IsFn Tryz.prog 120 := ⟨Tryz.f120, Tryz.func120, rfl, rfl⟩
instance : IsFn Tryz.prog 121 := ⟨Tryz.f121, Tryz.func121, rfl, rfl⟩
instance : IsFn Tryz.prog 122 := ⟨Tryz.f122, Tryz.func122, rfl, rfl⟩
instance : IsFn Tryz.prog 123 := ⟨Tryz.f123, Tryz.func123, rfl, rfl⟩
instance : IsFn Tryz.prog 124 := ⟨Tryz.f124, Tryz.func124, rfl, rfl⟩
instance : IsFn Tryz.prog 125 := ⟨Tryz.f125, Tryz.func125, rfl, rfl⟩
instance : IsFn Tryz.prog 126 := ⟨Tryz.f126, Tryz.func126, rfl, rfl⟩
instance : IsFn Tryz.prog 127 := ⟨Tryz.f127, Tryz.func127, rfl, rfl⟩
instance : IsFn Tryz.prog 128 := ⟨Tryz.f128, Tryz.func128, rfl, rfl⟩
instance : IsFn Tryz.prog 129 := ⟨Tryz.f129, Tryz.func129, rfl, rfl⟩
instance : IsFn Tryz.prog 130 := ⟨Tryz.f130, Tryz.func130, rfl, rfl⟩
instance : IsFn Tryz.prog 131 := ⟨Tryz.f131, Tryz.func131, rfl, rfl⟩
instance : IsFn Tryz.prog 132 := ⟨Tryz.f132, Tryz.func132, rfl, rfl⟩
instance : IsFn Tryz.prog 133 := ⟨Tryz.f133, Tryz.func133, rfl, rfl⟩
instance : IsFn Tryz.prog 134 := ⟨Tryz.f134, Tryz.func134, rfl, rfl⟩
instance : IsFn Tryz.prog 135 := ⟨Tryz.f135, Tryz.func135, rfl, rfl⟩
instance : IsFn Tryz.prog 136 := ⟨Tryz.f136, Tryz.func136, rfl, rfl⟩
instance : IsFn Tryz.prog 137 := ⟨Tryz.f137, Tryz.func137, rfl, rfl⟩
instance : IsFn Tryz.prog 138 := ⟨Tryz.f138, Tryz.func138, rfl, rfl⟩
instance : IsFn Tryz.prog 139 := ⟨Tryz.f139, Tryz.func139, rfl, rfl⟩
instance : IsFn Tryz.prog 140 := ⟨Tryz.f140, Tryz.func140, rfl, rfl⟩
instance : IsFn Tryz.prog 141 := ⟨Tryz.f141, Tryz.func141, rfl, rfl⟩
instance : IsFn Tryz.prog 142 := ⟨Tryz.f142, Tryz.func142, rfl, rfl⟩
instance : IsFn Tryz.prog 143 := ⟨Tryz.f143, Tryz.func143, rfl, rfl⟩
instance : IsFn Tryz.prog 144 := ⟨Tryz.f144, Tryz.func144, rfl, rfl⟩
instance : IsFn Tryz.prog 145 := ⟨Tryz.f145, Tryz.func145, rfl, rfl⟩
instance : IsFn Tryz.prog 146 := ⟨Tryz.f146, Tryz.func146, rfl, rfl⟩
instance : IsFn Tryz.prog 147 := ⟨Tryz.f147, Tryz.func147, rfl, rfl⟩
instance : IsFn Tryz.prog 148 := ⟨Tryz.f148, Tryz.func148, rfl, rfl⟩
instance : IsFn Tryz.prog 149 := ⟨Tryz.f149, Tryz.func149, rfl, rfl⟩
instance : IsFn Tryz.prog 150 := ⟨Tryz.f150, Tryz.func150, rfl, rfl⟩
instance : IsFn Tryz.prog 151 := ⟨Tryz.f151, Tryz.func151, rfl, rfl⟩
instance : IsFn Tryz.prog 152 := ⟨Tryz.f152, Tryz.func152, rfl, rfl⟩
instance : IsFn Tryz.prog 153 := ⟨Tryz.f153, Tryz.func153, rfl, rfl⟩
instance : IsFn Tryz.prog 154 := ⟨Tryz.f154, Tryz.func154, rfl, rfl⟩
instance : IsFn Tryz.prog 155 := ⟨Tryz.f155, Tryz.func155, rfl, rfl⟩
instance : IsFn Tryz.prog 156 := ⟨Tryz.f156, Tryz.func156, rfl, rfl⟩
instance : IsFn Tryz.prog 157 := ⟨Tryz.f157, Tryz.func157, rfl, rfl⟩
instance : IsFn Tryz.prog 158 := ⟨Tryz.f158, Tryz.func158, rfl, rfl⟩
instance : IsFn Tryz.prog 159 := ⟨Tryz.f159, Tryz.func159, rfl, rfl⟩
instance : IsFn Tryz.prog 160 := ⟨Tryz.f160, Tryz.func160, rfl, rfl⟩
instance : IsFn Tryz.prog 161 := ⟨Tryz.f161, Tryz.func161, rfl, rfl⟩
instance : IsFn Tryz.prog 162 := ⟨Tryz.f162, Tryz.func162, rfl, rfl⟩
instance : IsFn Tryz.prog 163 := ⟨Tryz.f163, Tryz.func163, rfl, rfl⟩
instance : IsFn Tryz.prog 164 := ⟨Tryz.f164, Tryz.func164, rfl, rfl⟩
instance : IsFn Tryz.prog 165 := ⟨Tryz.f165, Tryz.func165, rfl, rfl⟩
instance : IsFn Tryz.prog 166 := ⟨Tryz.f166, Tryz.func166, rfl, rfl⟩
instance : IsFn Tryz.prog 167 := ⟨Tryz.f167, Tryz.func167, rfl, rfl⟩
instance : IsFn Tryz.prog 168 := ⟨Tryz.f168, Tryz.func168, rfl, rfl⟩
instance : IsFn Tryz.prog 169 := ⟨Tryz.f169, Tryz.func169, rfl, rfl⟩
instance : IsFn Tryz.prog 170 := ⟨Tryz.f170, Tryz.func170, rfl, rfl⟩
instance : IsFn Tryz.prog 171 := ⟨Tryz.f171, Tryz.func171, rfl, rfl⟩
instance : IsFn Tryz.prog 172 := ⟨Tryz.f172, Tryz.func172, rfl, rfl⟩
instance : IsFn Tryz.prog 173 := ⟨Tryz.f173, Tryz.func173, rfl, rfl⟩
instance : IsFn Tryz.prog 174 := ⟨Tryz.f174, Tryz.func174, rfl, rfl⟩
instance : IsFn Tryz.prog 175 := ⟨Tryz.f175, Tryz.func175, rfl, rfl⟩
instance : IsFn Tryz.prog 176 := ⟨Tryz.f176, Tryz.func176, rfl, rfl⟩
instance : IsFn Tryz.prog 177 := ⟨Tryz.f177, Tryz.func177, rfl, rfl⟩
instance : IsFn Tryz.prog 179 := ⟨Tryz.f179, Tryz.func179, rfl, rfl⟩
instance : IsFn Tryz.prog 180 := ⟨Tryz.f180, Tryz.func180, rfl, rfl⟩
instance : IsFn Tryz.prog 181 := ⟨Tryz.f181, Tryz.func181, rfl, rfl⟩
instance : IsFn Tryz.prog 182 := ⟨Tryz.f182, Tryz.func182, rfl, rfl⟩
instance : IsFn Tryz.prog 183 := ⟨Tryz.f183, Tryz.func183, rfl, rfl⟩
instance : IsFn Tryz.prog 184 := ⟨Tryz.f184, Tryz.func184, rfl, rfl⟩
instance : IsFn Tryz.prog 185 := ⟨Tryz.f185, Tryz.func185, rfl, rfl⟩
instance : IsFn Tryz.prog 186 := ⟨Tryz.f186, Tryz.func186, rfl, rfl⟩
instance : IsFn Tryz.prog 187 := ⟨Tryz.f187, Tryz.func187, rfl, rfl⟩
instance : IsFn Tryz.prog 188 := ⟨Tryz.f188, Tryz.func188, rfl, rfl⟩
instance : IsFn Tryz.prog 189 := ⟨Tryz.f189, Tryz.func189, rfl, rfl⟩
instance : IsFn Tryz.prog 190 := ⟨Tryz.f190, Tryz.func190, rfl, rfl⟩
instance : IsFn Tryz.prog 191 := ⟨Tryz.f191, Tryz.func191, rfl, rfl⟩
instance : IsFn Tryz.prog 192 := ⟨Tryz.f192, Tryz.func192, rfl, rfl⟩
instance : IsFn Tryz.prog 193 := ⟨Tryz.f193, Tryz.func193, rfl, rfl⟩
instance : IsFn Tryz.prog 194 := ⟨Tryz.f194, Tryz.func194, rfl, rfl⟩
instance : IsFn Tryz.prog 195 := ⟨Tryz.f195, Tryz.func195, rfl, rfl⟩
instance : IsFn Tryz.prog 196 := ⟨Tryz.f196, Tryz.func196, rfl, rfl⟩
instance : IsFn Tryz.prog 197 := ⟨Tryz.f197, Tryz.func197, rfl, rfl⟩
instance : IsFn Tryz.prog 198 := ⟨Tryz.f198, Tryz.func198, rfl, rfl⟩
instance : IsFn Tryz.prog 199 := ⟨Tryz.f199, Tryz.func199, rfl, rfl⟩
instance : IsFn Tryz.prog 200 := ⟨Tryz.f200, Tryz.func200, rfl, rfl⟩
instance : IsFn Tryz.prog 201 := ⟨Tryz.f201, Tryz.func201, rfl, rfl⟩
instance : IsFn Tryz.prog 202 := ⟨Tryz.f202, Tryz.func202, rfl, rfl⟩
instance : IsFn Tryz.prog 203 := ⟨Tryz.f203, Tryz.func203, rfl, rfl⟩
instance : IsFn Tryz.prog 204 := ⟨Tryz.f204, Tryz.func204, rfl, rfl⟩
instance : IsFn Tryz.prog 205 := ⟨Tryz.f205, Tryz.func205, rfl, rfl⟩
instance : IsFn Tryz.prog 206 := ⟨Tryz.f206, Tryz.func206, rfl, rfl⟩
instance : IsFn Tryz.prog 207 := ⟨Tryz.f207, Tryz.func207, rfl, rfl⟩
instance : IsFn Tryz.prog 208 := ⟨Tryz.f208, Tryz.func208, rfl, rfl⟩
instance : IsFn Tryz.prog 209 := ⟨Tryz.f209, Tryz.func209, rfl, rfl⟩
instance : IsFn Tryz.prog 210 := ⟨Tryz.f210, Tryz.func210, rfl, rfl⟩
instance : IsFn Tryz.prog 212 := ⟨Tryz.f212, Tryz.func212, rfl, rfl⟩
instance : IsFn Tryz.prog 213 := ⟨Tryz.f213, Tryz.func213, rfl, rfl⟩
instance : IsFn Tryz.prog 214 := ⟨Tryz.f214, Tryz.func214, rfl, rfl⟩
instance : IsFn Tryz.prog 215 := ⟨Tryz.f215, Tryz.func215, rfl, rfl⟩
instance : IsFn Tryz.prog 216 := ⟨Tryz.f216, Tryz.func216, rfl, rfl⟩
instance : IsFn Tryz.prog 217 := ⟨Tryz.f217, Tryz.func217, rfl, rfl⟩
instance : IsFn Tryz.prog 249 := ⟨Tryz.f249, Tryz.func249, rfl, rfl⟩
end Go.Proofs.YtaeefjcbmkiiaaaGreatDoor
/- Heaps, assertions and their separating conjunction over the machine's worlds: what a walk says of memory, and how it is kept. -/
namespace Go.Proofs.YtaeefjcbmkiiaaaGreatDoor.Sl
open Go Go.RowKit

/-- A part of the heap: some blocks with what they hold. -/
abbrev Hp := Nat → Option Obj
/-- What is said of a part of the heap; the first: what was there when the law began, and stays (it may be read by all). -/
abbrev Assn := Hp → Hp → Prop

def Hp.disj (h1 h2 : Hp) : Prop := ∀ b, h1 b = none ∨ h2 b = none
def Hp.le (h h' : Hp) : Prop := ∀ b o, h b = some o → h' b = some o
def Hp.union (h1 h2 : Hp) : Hp := fun b => match h1 b with | some o => some o | none => h2 b
def Hp.empty : Hp := fun _ => none
def Hp.one (b : Nat) (o : Obj) : Hp := fun c => if c = b then some o else none

theorem Hp.le_refl (h : Hp) : Hp.le h h := fun _ _ e => e
theorem Hp.le_trans {a b c : Hp} (h : Hp.le a b) (k : Hp.le b c) : Hp.le a c := fun x o e => k x o (h x o e)
theorem Hp.disj_symm {a b : Hp} (h : Hp.disj a b) : Hp.disj b a := fun x => (h x).symm
theorem Hp.disj_le {a b a' b' : Hp} (h : Hp.disj a b) (ha : Hp.le a' a) (hb : Hp.le b' b) : Hp.disj a' b' := by
  intro x
  cases h1 : a' x with
  | none => exact .inl rfl
  | some o =>
    cases h2 : b' x with
    | none => exact .inr rfl
    | some o' =>
      rcases h x with e | e
      · rw [ha _ _ h1] at e; cases e
      · rw [hb _ _ h2] at e; cases e
theorem Hp.le_union_left (a b : Hp) : Hp.le a (Hp.union a b) := fun x o e => by simp [Hp.union, e]
theorem Hp.le_union_right {a b : Hp} (h : Hp.disj a b) : Hp.le b (Hp.union a b) := fun x o e => by
  rcases h x with e' | e'
  · simp [Hp.union, e', e]
  · rw [e'] at e; cases e
theorem Hp.union_le {a b c : Hp} (ha : Hp.le a c) (hb : Hp.le b c) : Hp.le (Hp.union a b) c := fun x o e => by
  unfold Hp.union at e
  cases h1 : a x with
  | none => rw [h1] at e; exact hb _ _ e
  | some o' => rw [h1] at e; cases e; exact ha _ _ h1
theorem Hp.disj_union {a b c : Hp} (h1 : Hp.disj a c) (h2 : Hp.disj b c) : Hp.disj (Hp.union a b) c := fun x => by
  rcases h1 x with e | e
  · rcases h2 x with e' | e'
    · left; simp [Hp.union, e, e']
    · exact .inr e'
  · exact .inr e

/-- All of a list hold, of parts that are apart. -/
def sat : List Assn → Assn
  | [], _, _ => True
  | A :: Γ, r, h => ∃ h1 h2, Hp.disj h1 h2 ∧ Hp.le h1 h ∧ Hp.le h2 h ∧ A r h1 ∧ sat Γ r h2

theorem sat_mono {Γ : List Assn} {r h h' : Hp} (hl : Hp.le h h') (hs : sat Γ r h) : sat Γ r h' := by
  cases Γ with
  | nil => trivial
  | cons A Γ =>
    obtain ⟨h1, h2, d, l1, l2, hA, hG⟩ := hs
    exact ⟨h1, h2, d, Hp.le_trans l1 hl, Hp.le_trans l2 hl, hA, hG⟩
theorem sat_swap {A B : Assn} {Γ : List Assn} {r h : Hp} (hs : sat (A :: B :: Γ) r h) : sat (B :: A :: Γ) r h := by
  obtain ⟨h1, h2, d, l1, l2, hA, h3, h4, d', l3, l4, hB, hG⟩ := hs
  have d14 : Hp.disj h1 h4 := Hp.disj_le d (Hp.le_refl _) l4
  refine ⟨h3, Hp.union h1 h4, ?_, Hp.le_trans l3 l2, Hp.union_le l1 (Hp.le_trans l4 l2), hB, h1, h4, d14, Hp.le_union_left _ _, Hp.le_union_right d14, hA, hG⟩
  exact Hp.disj_symm (Hp.disj_union (Hp.disj_le d (Hp.le_refl _) l3) (Hp.disj_symm d'))
theorem sat_tail {A : Assn} {Γ : List Assn} {r h : Hp} (hs : sat (A :: Γ) r h) : sat Γ r h := by
  obtain ⟨h1, h2, d, l1, l2, hA, hG⟩ := hs
  exact sat_mono l2 hG
theorem sat_head {A : Assn} {Γ : List Assn} {r h : Hp} (hs : sat (A :: Γ) r h) : ∃ h1, Hp.le h1 h ∧ A r h1 := by
  obtain ⟨h1, h2, d, l1, l2, hA, hG⟩ := hs
  exact ⟨h1, l1, hA⟩
theorem sat_congr_tail {A : Assn} {Γ Γ' : List Assn} {r h : Hp} (f : ∀ h, sat Γ r h → sat Γ' r h) (hs : sat (A :: Γ) r h) : sat (A :: Γ') r h := by
  obtain ⟨h1, h2, d, l1, l2, hA, hG⟩ := hs
  exact ⟨h1, h2, d, l1, l2, hA, f _ hG⟩
theorem sat_perm {Γ Γ' : List Assn} (p : Γ.Perm Γ') : ∀ {r h : Hp}, sat Γ r h → sat Γ' r h := by
  induction p with
  | nil => exact fun h => h
  | cons A _ ih => exact fun hs => sat_congr_tail (fun _ => ih) hs
  | swap A B Γ => exact fun hs => sat_swap hs
  | trans _ _ ih1 ih2 => exact fun hs => ih2 (ih1 hs)
/-- Two lists side by side, as one assertion behind the first. -/
theorem sat_append_iff {Γ Δ : List Assn} {r h : Hp} : sat (Γ ++ Δ) r h ↔ sat (Γ ++ [sat Δ]) r h := by
  induction Γ generalizing h with
  | nil =>
    constructor
    · intro hs
      exact ⟨h, Hp.empty, fun _ => .inr rfl, Hp.le_refl _, fun _ _ e => (by cases e), hs, trivial⟩
    · rintro ⟨h1, h2, d, l1, l2, hA, -⟩
      exact sat_mono l1 hA
  | cons A Γ ih =>
    constructor <;> exact fun hs => sat_congr_tail (fun _ => by first | exact ih.1 | exact ih.2) hs

/-- One of a list, and the others. -/
inductive Sel : List Assn → Assn → List Assn → Prop
  | here {A : Assn} {Γ : List Assn} : Sel (A :: Γ) A Γ
  | there {A B : Assn} {Γ Γ' : List Assn} : Sel Γ A Γ' → Sel (B :: Γ) A (B :: Γ')
theorem Sel.perm {Γ : List Assn} {A : Assn} {Γ' : List Assn} (h : Sel Γ A Γ') : Γ.Perm (A :: Γ') := by
  induction h with
  | here => exact .refl _
  | there _ ih => exact (List.Perm.cons _ ih).trans (.swap _ _ _)
/-- Some of a list, and the others. -/
inductive Split : List Assn → List Assn → List Assn → Prop
  | nil {Γ : List Assn} : Split Γ [] Γ
  | cons {Γ Γ1 R : List Assn} {A : Assn} {As : List Assn} : Sel Γ A Γ1 → Split Γ1 As R → Split Γ (A :: As) R
theorem Split.perm {Γ As R : List Assn} (h : Split Γ As R) : Γ.Perm (As ++ R) := by
  induction h with
  | nil => exact .refl _
  | cons s _ ih => exact s.perm.trans (.cons _ ih)

/-- A block and what it holds. -/
def blk (b : Nat) (o : Obj) : Assn := fun _ h => h b = some o
/-- A block that was there when the law began. -/
def rbk (b : Nat) (o : Obj) : Assn := fun r _ => r b = some o
def pur (p : Prop) : Assn := fun _ _ => p
def exA {α : Type} (A : α → Assn) : Assn := fun r h => ∃ x, A x r h
/-- Several, as one. -/
def all (Γ : List Assn) : Assn := sat Γ

/-! ### worlds -/
/-- What was there. -/
def baseHp (B : World) : Hp := fun b => if b < B.heap.size then B.heap[b]? else none
/-- What a walk says of the world: nothing that was there when the law began has turned; of what is new, all of the list hold, and the frame. -/
def Sat (B : World) (F : Assn) (Γ : List Assn) (w : World) : Prop :=
  Below B.heap.size B w ∧ ∃ h : Hp, (∀ b o, h b = some o → B.heap.size ≤ b ∧ w.heap[b]? = some o) ∧ sat (F :: Γ) (baseHp B) h

variable {B : World} {F : Assn} {Γ Γ' : List Assn} {w : World}

theorem Sat.perm (p : Γ.Perm Γ') (h : Sat B F Γ w) : Sat B F Γ' w :=
  let ⟨hb, m, hm, hs⟩ := h; ⟨hb, m, hm, sat_congr_tail (fun _ => sat_perm p) hs⟩
theorem Sat.imp (f : ∀ h, sat Γ (baseHp B) h → sat Γ' (baseHp B) h) (h : Sat B F Γ w) : Sat B F Γ' w :=
  let ⟨hb, m, hm, hs⟩ := h; ⟨hb, m, hm, sat_congr_tail f hs⟩
theorem Sat.tail {A : Assn} (h : Sat B F (A :: Γ) w) : Sat B F Γ w := h.imp fun _ => sat_tail
/-- One of the list, looked at. -/
theorem Sat.peek {A : Assn} (h : Sat B F Γ w) (s : Sel Γ A Γ') : ∃ h1 : Hp, (∀ b o, h1 b = some o → B.heap.size ≤ b ∧ w.heap[b]? = some o) ∧ A (baseHp B) h1 := by
  obtain ⟨hb, m, hm, hs⟩ := h.perm s.perm
  obtain ⟨h1, l1, hA⟩ := sat_head (sat_tail hs)
  exact ⟨h1, fun b o e => hm b o (l1 b o e), hA⟩
theorem Sat.blk {b : Nat} {o : Obj} (h : Sat B F Γ w) (s : Sel Γ (Sl.blk b o) Γ') : B.heap.size ≤ b ∧ w.heap[b]? = some o := by
  obtain ⟨h1, l1, hA⟩ := h.peek s
  exact l1 b o hA
theorem Sat.base (h : Sat B F Γ w) : Below B.heap.size B w := h.1
/-- The world's count of draws, and nothing that the heap holds. -/
theorem Sat.of_heap {w' : World} (h : Sat B F Γ w) (h1 : w'.heap = w.heap) (h2 : w'.os = w.os) (h3 : w'.tape = w.tape) (h4 : w'.output = w.output) : Sat B F Γ w' := by
  obtain ⟨hb, m, hm, hs⟩ := h
  refine ⟨⟨h2.trans hb.os, h3.trans hb.tape, h4.trans hb.output, by rw [h1]; exact hb.size, fun k hk => by rw [h1]; exact hb.block k hk⟩, m, fun b o e => by rw [h1]; exact hm b o e, hs⟩
theorem Sat.drew (h : Sat B F Γ w) : Sat B F Γ { w with drawn := w.drawn + 1 } := h.of_heap rfl rfl rfl rfl
/-- A new block. -/
theorem Sat.alloc (h : Sat B F Γ w) (o : Obj) : Sat B F (Sl.blk w.heap.size o :: Γ) (w.alloc o) := by
  obtain ⟨hb, m, hm, h1, h2, d, l1, l2, hF, hs⟩ := h
  have hnone : ∀ h' : Hp, Hp.le h' m → h' w.heap.size = none := fun h' l => by
    cases e : h' w.heap.size with
    | none => rfl
    | some x =>
      have := (hm _ _ (l _ _ e)).2
      rw [Array.getElem?_eq_none (Nat.le_refl _)] at this; cases this
  have dm : Hp.disj (Hp.one w.heap.size o) m := fun b => by
    by_cases e : b = w.heap.size
    · right; subst e; exact hnone m (Hp.le_refl _)
    · left; simp [Hp.one, e]
  refine ⟨hb.alloc hb.size o, Hp.union (Hp.one w.heap.size o) m, ?_, h1, Hp.union (Hp.one w.heap.size o) h2, ?_, Hp.le_trans l1 (Hp.le_union_right dm), Hp.union_le (Hp.le_union_left _ _) (Hp.le_trans l2 (Hp.le_union_right dm)), hF, Hp.one w.heap.size o, h2, Hp.disj_le dm (Hp.le_refl _) l2, Hp.le_union_left _ _, Hp.le_union_right (Hp.disj_le dm (Hp.le_refl _) l2), by simp [Sl.blk, Hp.one], hs⟩
  · intro b o' e
    unfold Hp.union at e
    by_cases hbn : b = w.heap.size
    · subst hbn
      simp [Hp.one] at e
      subst e
      exact ⟨hb.size, by show (w.heap.push o)[w.heap.size]? = some o; simp⟩
    · simp [Hp.one, hbn] at e
      obtain ⟨h5, h6⟩ := hm b o' e
      exact ⟨h5, by show (w.heap.push o)[b]? = some o'; simp only [Array.getElem?_push, hbn, if_false]; exact h6⟩
  · exact Hp.disj_symm (Hp.disj_union (Hp.disj_le dm (Hp.le_refl _) l1) (Hp.disj_symm d))
/-- A block of the list, written. -/
theorem Sat.write {b : Nat} {o o' : Obj} {w' : World} (h : Sat B F (Sl.blk b o :: Γ) w) (hw : w'.heap = w.heap.setIfInBounds b o') (h2 : w'.os = w.os) (h3 : w'.tape = w.tape) (h4 : w'.output = w.output) :
    Sat B F (Sl.blk b o' :: Γ) w' := by
  obtain ⟨hb, m, hm, h1, h2', d, l1, l2, hF, h3', h4', d', l3, l4, hbk, hs⟩ := h
  have hbb : m b = some o := l2 _ _ (l3 _ _ hbk)
  obtain ⟨hle, hget⟩ := hm b o hbb
  have hlt : b < w.heap.size := by
    rcases Nat.lt_or_ge b w.heap.size with h | h
    · exact h
    · rw [Array.getElem?_eq_none h] at hget; cases hget
  have n1 : h1 b = none := by
    rcases d b with e | e
    · exact e
    · rw [l3 _ _ hbk] at e; cases e
  have n4 : h4' b = none := by
    rcases d' b with e | e
    · rw [show h3' b = some o from hbk] at e; cases e
    · exact e
  have dj : ∀ h' : Hp, h' b = none → Hp.disj (Hp.one b o') h' := fun h' e x => by
    by_cases ex : x = b
    · right; subst ex; exact e
    · left; simp [Hp.one, ex]
  let mm : Hp := fun x => if x = b then some o' else m x
  have lm : ∀ h' : Hp, h' b = none → Hp.le h' m → Hp.le h' mm := fun h' e l x y exy => by
    by_cases ex : x = b
    · subst ex; rw [e] at exy; cases exy
    · simp [mm, ex]; exact l _ _ exy
  have lo : Hp.le (Hp.one b o') mm := fun x y e => by
    by_cases ex : x = b
    · subst ex; simpa [Hp.one, mm] using e
    · simp [Hp.one, ex] at e
  refine ⟨⟨h2.trans hb.os, h3.trans hb.tape, h4.trans hb.output, by rw [hw]; simpa using hb.size, fun k hk => ?_⟩, mm, ?_, h1, Hp.union (Hp.one b o') h4', ?_, lm _ n1 l1, Hp.union_le lo (lm _ n4 (Hp.le_trans l4 l2)), hF, Hp.one b o', h4', dj _ n4, Hp.le_union_left _ _, Hp.le_union_right (dj _ n4), by simp [Sl.blk, Hp.one], hs⟩
  · rw [hw, Array.getElem?_setIfInBounds_ne (by omega)]; exact hb.block k hk
  · intro x y e
    by_cases ex : x = b
    · subst ex
      simp [mm] at e; subst e
      refine ⟨hle, ?_⟩
      rw [hw]; simp [hlt]
    · simp [mm, ex] at e
      obtain ⟨p, q⟩ := hm x y e
      refine ⟨p, ?_⟩
      rw [hw, Array.getElem?_setIfInBounds_ne (Ne.symm ex)]; exact q
  · exact Hp.disj_symm (Hp.disj_union (dj _ n1) (Hp.disj_symm (Hp.disj_le d (Hp.le_refl _) l4)))
/-- The frame, widened by what a call does not take. -/
theorem Sat.frame {As R : List Assn} (h : Sat B F (As ++ R) w) : Sat B (all (F :: R)) As w := by
  obtain ⟨hb, m, hm, hs⟩ := h
  refine ⟨hb, m, hm, ?_⟩
  have h1 : sat (As ++ (F :: R)) (baseHp B) m := sat_perm (List.perm_middle.symm) hs
  have h2 := sat_append_iff.1 h1
  exact sat_perm List.perm_append_comm h2
theorem Sat.unframe {As R : List Assn} (h : Sat B (all (F :: R)) As w) : Sat B F (As ++ R) w := by
  obtain ⟨hb, m, hm, hs⟩ := h
  refine ⟨hb, m, hm, ?_⟩
  have h1 : sat (As ++ [sat (F :: R)]) (baseHp B) m := sat_perm (List.perm_append_comm (l₁ := [sat (F :: R)])) hs
  exact sat_perm (List.perm_middle) (sat_append_iff.2 h1)
/-- Facts and witnesses come out of the list. -/
theorem Sat.ex {α : Type} {A : α → Assn} (h : Sat B F (exA A :: Γ) w) : ∃ x, Sat B F (A x :: Γ) w := by
  obtain ⟨hb, m, hm, h1, h2, d, l1, l2, hF, h3, h4, d', l3, l4, ⟨x, hx⟩, hs⟩ := h
  exact ⟨x, hb, m, hm, h1, h2, d, l1, l2, hF, h3, h4, d', l3, l4, hx, hs⟩
theorem Sat.pure {p : Prop} (h : Sat B F (pur p :: Γ) w) : p := by
  obtain ⟨h1, _, hA⟩ := h.peek .here
  exact hA
theorem Sat.all_open {Δ : List Assn} (h : Sat B F (all Δ :: Γ) w) : Sat B F (Δ ++ Γ) w :=
  h.imp fun _ hs => sat_perm List.perm_append_comm (sat_append_iff.2 (sat_perm (List.perm_append_comm (l₁ := [sat Δ])) hs))
theorem Sat.all_close {Δ : List Assn} (h : Sat B F (Δ ++ Γ) w) : Sat B F (all Δ :: Γ) w :=
  h.imp fun _ hs => sat_perm (List.perm_append_comm (l₂ := [sat Δ])) (sat_append_iff.1 (sat_perm List.perm_append_comm hs))
theorem Sat.put_ex {α : Type} {A : α → Assn} (x : α) (h : Sat B F (A x :: Γ) w) : Sat B F (exA A :: Γ) w := by
  obtain ⟨hb, m, hm, h1, h2, d, l1, l2, hF, h3, h4, d', l3, l4, hx, hs⟩ := h
  exact ⟨hb, m, hm, h1, h2, d, l1, l2, hF, h3, h4, d', l3, l4, ⟨x, hx⟩, hs⟩
theorem Sat.put_pure {p : Prop} (hp : p) (h : Sat B F Γ w) : Sat B F (pur p :: Γ) w :=
  h.imp fun m hs => ⟨Hp.empty, m, fun _ => .inl rfl, fun _ _ e => (by cases e), Hp.le_refl _, hp, hs⟩
/-- Two blocks of the list are two. -/
theorem Sat.ne {b c : Nat} {o o' : Obj} (h : Sat B F (Sl.blk b o :: Sl.blk c o' :: Γ) w) : b ≠ c := by
  rintro rfl
  obtain ⟨hb, m, hm, h1, h2, d, l1, l2, hF, h3, h4, d', l3, l4, hx, h5, h6, d'', l5, l6, hy, hs⟩ := h
  rcases d' b with e | e
  · rw [show h3 b = some o from hx] at e; cases e
  · rw [l5 _ _ hy] at e; cases e
end Go.Proofs.YtaeefjcbmkiiaaaGreatDoor.Sl
