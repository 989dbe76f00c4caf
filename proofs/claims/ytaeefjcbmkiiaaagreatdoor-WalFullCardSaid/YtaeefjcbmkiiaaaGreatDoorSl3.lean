/- What each operation does, said of temporaries and memory: the ones that read; a call; a new variable; a store. -/
import Derived.Test.YtaeefjcbmkiiaaaGreatDoorSl2
import Derived.Test.YtaeefjcbmkiiaaaGreatDoorSlC
import Derived.Laws.World
namespace Go.Proofs.YtaeefjcbmkiiaaaGreatDoor.Sl
open Go Go.RowKit

theorem run_underlying {P : Program} {T : TypeId} {d : TypeDesc} (h : P.underlying T = some d) (w : World) : (underlying T).run P w = .ok d w := by
  simp [underlying, h]
theorem run_isAgg {P : Program} {T : TypeId} {t : Bool} (h : aggOf P T = some t) (w : World) : (isAgg T).run P w = .ok t w := by
  unfold aggOf at h
  unfold isAgg
  cases hu : P.underlying T with
  | none => rw [hu] at h; cases h
  | some d =>
    rw [hu] at h
    rw [Sem.run_bind, run_underlying hu]
    cases d <;> simp at h <;> subst h <;> rfl
theorem run_typeInfo {P : Program} {T : TypeId} {i : TypeInfo} (h : P.info? T = some i) (w : World) : (typeInfo T).run P w = .ok i w := by
  simp [typeInfo, h]
theorem run_sizeOf {P : Program} {T : TypeId} {n : Nat} (h : szOf P T = some n) (w : World) : (sizeOf T).run P w = .ok n w := by
  unfold szOf at h
  obtain ⟨i, hi, rfl⟩ := Option.map_eq_some_iff.1 h
  simp [sizeOf, run_typeInfo hi]
theorem run_zeroValue {P : Program} {T : TypeId} {z : Value} (h : (P.info? T).bind (·.zero) = some z) (w : World) : (zeroValue T).run P w = .ok z w := by
  obtain ⟨i, hi, hz⟩ := Option.bind_eq_some_iff.1 h
  simp [zeroValue, run_typeInfo hi, hz]
theorem add_none (b o n : Nat) : (⟨b, o, none⟩ : Addr).add n = ⟨b, o + n, none⟩ := by
  unfold Addr.add; split <;> simp_all
theorem szOf_of {P : Program} {E sz bytes : Nat} (h : (P.info? E).map (fun i => (i.size, i.bytes)) = some (sz, bytes)) : szOf P E = some sz := by
  unfold szOf; cases hi : P.info? E with | none => rw [hi] at h; cases h | some i => rw [hi] at h; simp at h; simp [h.1]

section
variable {c : Ctx} {k : List Item} {st : St} {Γ : List Assn} {d : Option Tmp} {ty : TypeId} {pos : String} {af : Array Edge} {g : Option (Nat × Bool)}

/-! ### operations that read nothing -/
theorem RO_move {x : Operand} {v : Value} (hv : ev st x = some v) : RO c st Γ ⟨d, .move x, ty, pos, af, g⟩ v := fun a w ha _ => by
  simp [execOp, ev_eval ha hv]
theorem RO_assign {x : Operand} {v : Value} (hv : ev st x = some v) : RO c st Γ ⟨d, .assign x, ty, pos, af, g⟩ v := fun a w ha _ => by
  simp [execOp, ev_eval ha hv]
theorem RO_pick_t {x y z : Operand} {v : Value} (hc : ev st x = some (.bool true)) (hv : ev st y = some v) : RO c st Γ ⟨d, .pick x y z, ty, pos, af, g⟩ v := fun a w ha _ => by
  simp [execOp, ev_eval ha hv, ev_eval ha hc, asBool]
theorem RO_pick_f {x y z : Operand} {v : Value} (hc : ev st x = some (.bool false)) (hv : ev st z = some v) : RO c st Γ ⟨d, .pick x y z, ty, pos, af, g⟩ v := fun a w ha _ => by
  simp [execOp, ev_eval ha hv, ev_eval ha hc, asBool]
theorem RO_nilCheck {x : Operand} {p : Addr} (hv : ev st x = some (.pointer (some p))) : RO c st Γ ⟨d, .nilCheck x, ty, pos, af, g⟩ (.pointer (some p)) := fun a w ha _ => by
  simp [execOp, ev_eval ha hv]
theorem RO_fieldAddr {x : Operand} {T i b o off : Nat} [hf : FOff c.P T i off] (hv : ev st x = some (.pointer (some ⟨b, o, none⟩))) :
    RO c st Γ ⟨d, .fieldAddr T x i, ty, pos, af, g⟩ (.pointer (some ⟨b, o + off, none⟩)) := fun a w ha _ => by
  obtain ⟨s, h⟩ := hf.h
  unfold foffOf at h
  cases hu : c.P.underlying T with
  | none => rw [hu] at h; cases h
  | some ds =>
    rw [hu] at h
    cases ds <;> try (cases h; done)
    rename_i fs
    dsimp only at h
    cases hfi : fs[i]? with
    | none => rw [hfi] at h; cases h
    | some f =>
      rw [hfi] at h
      obtain ⟨s', hs', he⟩ := Option.map_eq_some_iff.1 h
      cases he
      simp [execOp, ev_eval ha hv, Instr.fieldAt, run_underlying hu, hfi, Instr.sureAddr, fieldPlace, run_sizeOf hs', add_none]
theorem RO_fieldAddr0 {x : Operand} {T i b off : Nat} [hf : FOff c.P T i off] (hv : ev st x = some (.pointer (some ⟨b, 0, none⟩))) :
    RO c st Γ ⟨d, .fieldAddr T x i, ty, pos, af, g⟩ (.pointer (some ⟨b, off, none⟩)) := by
  have := RO_fieldAddr (c := c) (Γ := Γ) (d := d) (ty := ty) (pos := pos) (af := af) (g := g) (T := T) (i := i) hv
  rwa [Nat.zero_add] at this
theorem RO_extract {x : Operand} {i : Nat} {vs : Array Value} {v : Value} (hv : ev st x = some (.tuple vs)) (hi : vs[i]? = some v) : RO c st Γ ⟨d, .extract x i, ty, pos, af, g⟩ v := fun a w ha _ => by
  simp [execOp, ev_eval ha hv, Instr.extract, hi]
theorem RO_not {x : Operand} {T : TypeId} {b : Bool} (hv : ev st x = some (.bool b)) : RO c st Γ ⟨d, .unOp .not T x, ty, pos, af, g⟩ (.bool (!b)) := fun a w ha _ => by
  simp [execOp, ev_eval ha hv, Op.unary]
theorem RO_neg {x : Operand} {T : TypeId} {k : IntKind} {n : Int} (hv : ev st x = some (.int k n)) : RO c st Γ ⟨d, .unOp .neg T x, ty, pos, af, g⟩ (.int k (k.wrap (0 - n))) := fun a w ha _ => by
  simp [execOp, ev_eval ha hv, Op.unary, Op.intArith]
theorem RO_convert {x : Operand} {S T : TypeId} {k k' j : IntKind} {n : Int} [hs : TInt c.P S k'] [ht : TInt c.P T k] (hv : ev st x = some (.int j n)) : RO c st Γ ⟨d, .convert S T x, ty, pos, af, g⟩ (.int k (k.wrap n)) := fun a w ha _ => by
  simp [execOp, ev_eval ha hv, convert, run_underlying hs.h, run_underlying ht.h, Conv.intToInt]
theorem RO_makeFunc {fn : Fn} {first captured : Array Operand} {fs cs : Array Value} (h1 : first.toList.mapM (ev st) = some fs.toList) (h2 : captured.toList.mapM (ev st) = some cs.toList) :
    RO c st Γ ⟨d, .makeFunc fn first captured, ty, pos, af, g⟩ (.func fn fs cs) := fun a w ha _ => by
  have key : ∀ (xs : List Operand) (vs : List Value), xs.mapM (ev st) = some vs → xs.map a.eval = vs := by
    intro xs
    induction xs with
    | nil => intro vs h; simp at h; simp [h]
    | cons x xs ih =>
      intro vs h
      simp only [List.mapM_cons, Option.bind_eq_bind, Option.bind_eq_some_iff] at h
      obtain ⟨v, hv, us, hu, h⟩ := h
      cases h
      simp [ev_eval ha hv, ih us hu]
  have e1 : first.map a.eval = fs := by rw [← Array.toList_inj]; simpa using key _ _ h1
  have e2 : captured.map a.eval = cs := by rw [← Array.toList_inj]; simpa using key _ _ h2
  simp [execOp, Instr.makeFunc, e1, e2]

/-! ### arithmetic, tests -/
theorem run_eqGuard_int {P : Program} {op : BinOp} {T : TypeId} {x y : Operand} {j k : IntKind} {m n : Int} {w : World} : (eqGuard op T x y (.int j m) (.int k n)).run P w = .ok () w := by
  unfold eqGuard; split <;> rfl
theorem RO_int {x y : Operand} {op : BinOp} {T U : TypeId} {k : IntKind} {m n : Int} {v : Value} (hx : ev st x = some (.int k m)) (hy : ev st y = some (.int k n)) (h : ∀ w, (binOp op T (.int k m) (.int k n)).run c.P w = .ok v w) :
    RO c st Γ ⟨d, .binOp op T x y U, ty, pos, af, g⟩ v := fun a w ha _ => by
  simp [execOp, ev_eval ha hx, ev_eval ha hy, run_eqGuard_int, h]
theorem RO_add {x y : Operand} {T U : TypeId} {k : IntKind} {m n : Int} (hx : ev st x = some (.int k m)) (hy : ev st y = some (.int k n)) : RO c st Γ ⟨d, .binOp .add T x y U, ty, pos, af, g⟩ (.int k (k.wrap (m + n))) :=
  RO_int hx hy fun w => by simp [binOp, Op.intArith]
theorem RO_sub {x y : Operand} {T U : TypeId} {k : IntKind} {m n : Int} (hx : ev st x = some (.int k m)) (hy : ev st y = some (.int k n)) : RO c st Γ ⟨d, .binOp .sub T x y U, ty, pos, af, g⟩ (.int k (k.wrap (m - n))) :=
  RO_int hx hy fun w => by simp [binOp, Op.intArith]
theorem RO_mul {x y : Operand} {T U : TypeId} {k : IntKind} {m n : Int} (hx : ev st x = some (.int k m)) (hy : ev st y = some (.int k n)) : RO c st Γ ⟨d, .binOp .mul T x y U, ty, pos, af, g⟩ (.int k (k.wrap (m * n))) :=
  RO_int hx hy fun w => by simp [binOp, Op.intArith]
theorem wrap_in {n : Int} (h1 : -9223372036854775808 ≤ n) (h2 : n ≤ 9223372036854775807) : IntKind.i64.wrap n = n := by
  unfold IntKind.wrap; simp [IntKind.bits, IntKind.signed]; omega
theorem RO_add_in {x y : Operand} {T U : TypeId} {m n : Int} (hx : ev st x = some (.int .i64 m)) (hy : ev st y = some (.int .i64 n)) (h : -9223372036854775808 ≤ m + n ∧ m + n ≤ 9223372036854775807) : RO c st Γ ⟨d, .binOp .add T x y U, ty, pos, af, g⟩ (.int .i64 (m + n)) := by
  have := RO_add (c := c) (Γ := Γ) (d := d) (ty := ty) (pos := pos) (af := af) (g := g) (T := T) (U := U) hx hy
  rwa [wrap_in h.1 h.2] at this
theorem RO_sub_in {x y : Operand} {T U : TypeId} {m n : Int} (hx : ev st x = some (.int .i64 m)) (hy : ev st y = some (.int .i64 n)) (h : -9223372036854775808 ≤ m - n ∧ m - n ≤ 9223372036854775807) : RO c st Γ ⟨d, .binOp .sub T x y U, ty, pos, af, g⟩ (.int .i64 (m - n)) := by
  have := RO_sub (c := c) (Γ := Γ) (d := d) (ty := ty) (pos := pos) (af := af) (g := g) (T := T) (U := U) hx hy
  rwa [wrap_in h.1 h.2] at this
theorem RO_mul_in {x y : Operand} {T U : TypeId} {m n : Int} (hx : ev st x = some (.int .i64 m)) (hy : ev st y = some (.int .i64 n)) (h : -9223372036854775808 ≤ m * n ∧ m * n ≤ 9223372036854775807) : RO c st Γ ⟨d, .binOp .mul T x y U, ty, pos, af, g⟩ (.int .i64 (m * n)) := by
  have := RO_mul (c := c) (Γ := Γ) (d := d) (ty := ty) (pos := pos) (af := af) (g := g) (T := T) (U := U) hx hy
  rwa [wrap_in h.1 h.2] at this
theorem RO_lss {x y : Operand} {T U : TypeId} {k : IntKind} {m n : Int} (hx : ev st x = some (.int k m)) (hy : ev st y = some (.int k n)) : RO c st Γ ⟨d, .binOp .lss T x y U, ty, pos, af, g⟩ (.bool (decide (m < n))) :=
  RO_int hx hy fun w => by simp [binOp, Op.intCmp]
theorem RO_leq {x y : Operand} {T U : TypeId} {k : IntKind} {m n : Int} (hx : ev st x = some (.int k m)) (hy : ev st y = some (.int k n)) : RO c st Γ ⟨d, .binOp .leq T x y U, ty, pos, af, g⟩ (.bool (decide (m ≤ n))) :=
  RO_int hx hy fun w => by simp [binOp, Op.intCmp]
theorem RO_gtr {x y : Operand} {T U : TypeId} {k : IntKind} {m n : Int} (hx : ev st x = some (.int k m)) (hy : ev st y = some (.int k n)) : RO c st Γ ⟨d, .binOp .gtr T x y U, ty, pos, af, g⟩ (.bool (decide (n < m))) :=
  RO_int hx hy fun w => by simp [binOp, Op.intCmp]
theorem RO_geq {x y : Operand} {T U : TypeId} {k : IntKind} {m n : Int} (hx : ev st x = some (.int k m)) (hy : ev st y = some (.int k n)) : RO c st Γ ⟨d, .binOp .geq T x y U, ty, pos, af, g⟩ (.bool (decide (n ≤ m))) :=
  RO_int hx hy fun w => by simp [binOp, Op.intCmp]
theorem RO_eql {x y : Operand} {T U : TypeId} {k : IntKind} {m n : Int} (hx : ev st x = some (.int k m)) (hy : ev st y = some (.int k n)) : RO c st Γ ⟨d, .binOp .eql T x y U, ty, pos, af, g⟩ (.bool (decide (m = n))) :=
  RO_int hx hy fun w => by simp [binOp, Op.intCmp]; rfl
theorem RO_neq {x y : Operand} {T U : TypeId} {k : IntKind} {m n : Int} (hx : ev st x = some (.int k m)) (hy : ev st y = some (.int k n)) : RO c st Γ ⟨d, .binOp .neq T x y U, ty, pos, af, g⟩ (.bool (!decide (m = n))) :=
  RO_int hx hy fun w => by simp [binOp, Op.intCmp, bne]; rfl

end
end Go.Proofs.YtaeefjcbmkiiaaaGreatDoor.Sl
