/- What each operation does, said of temporaries and memory: the ones that read; a call; a new variable; a store. -/
import Derived.Test.YtaeefjcbmkiiaaaGreatDoorVX1
import Derived.Laws.World
import Derived.Laws.Strings
import Derived.Laws.StructEq
import Derived.WalkLawsBesides
import Derived.Laws.AppendOwn
import Derived.Lib.AppendStr
import Derived.Lib.UnsafeStr
import Derived.Laws.Externs
import Derived.Laws.IdiomStrings
import Derived.Laws.Pointers
import Derived.Lib.Builder
import Derived.LaidEqlPtr
import Derived.WalkSpells
set_option linter.unusedVariables false
set_option linter.unusedSimpArgs false
namespace Go.Proofs.YtaeefjcbmkiiaaaGreatDoor.Sl
open Go Go.RowKit

theorem run_underlying {P : Program} {T : TypeId} {d : TypeDesc} (h : P.underlying T = some d) (w : World) : (underlying T).run P w = .ok d w := by
  simp [underlying, h]
theorem run_isAgg {P : Program} {T : TypeId} {t : Bool} (h : aggOf P T = some t) (w : World) : (isAgg T).run P w = .ok t w := by
  unfold aggOf at h
  unfold isAgg
  cases hu : P.underlying T with
  | none => rw [hu] at h; cases h
  | some d =>
    rw [hu] at h
    rw [Sem.run_bind, run_underlying hu]
    cases d <;> simp at h <;> subst h <;> rfl
theorem run_typeInfo {P : Program} {T : TypeId} {i : TypeInfo} (h : P.info? T = some i) (w : World) : (typeInfo T).run P w = .ok i w := by
  simp [typeInfo, h]
theorem run_sizeOf {P : Program} {T : TypeId} {n : Nat} (h : szOf P T = some n) (w : World) : (sizeOf T).run P w = .ok n w := by
  unfold szOf at h
  obtain ⟨i, hi, rfl⟩ := Option.map_eq_some_iff.1 h
  simp [sizeOf, run_typeInfo hi]
theorem run_zeroValue {P : Program} {T : TypeId} {z : Value} (h : (P.info? T).bind (·.zero) = some z) (w : World) : (zeroValue T).run P w = .ok z w := by
  obtain ⟨i, hi, hz⟩ := Option.bind_eq_some_iff.1 h
  simp [zeroValue, run_typeInfo hi, hz]
theorem add_none (b o n : Nat) : (⟨b, o, none⟩ : Addr).add n = ⟨b, o + n, none⟩ := by
  unfold Addr.add; split <;> simp_all
theorem szOf_of {P : Program} {E sz bytes : Nat} (h : (P.info? E).map (fun i => (i.size, i.bytes)) = some (sz, bytes)) : szOf P E = some sz := by
  unfold szOf; cases hi : P.info? E with | none => rw [hi] at h; cases h | some i => rw [hi] at h; simp at h; simp [h.1]

section
variable {c : Ctx} {k : List Item} {st : St} {Γ : List Assn} {d : Option Tmp} {ty : TypeId} {pos : String} {af : Array Edge} {g : Option (Nat × Bool)}

/-! ### operations that read nothing -/
theorem RO_move {x : Operand} {v : Value} (hv : ev st x = some v) : RO c st Γ ⟨d, .move x, ty, pos, af, g⟩ v := fun a w ha _ => by
  simp [execOp, ev_eval ha hv]
theorem RO_assign {x : Operand} {v : Value} (hv : ev st x = some v) : RO c st Γ ⟨d, .assign x, ty, pos, af, g⟩ v := fun a w ha _ => by
  simp [execOp, ev_eval ha hv]
theorem RO_pick_t {x y z : Operand} {v : Value} (hc : ev st x = some (.bool true)) (hv : ev st y = some v) : RO c st Γ ⟨d, .pick x y z, ty, pos, af, g⟩ v := fun a w ha _ => by
  simp [execOp, ev_eval ha hv, ev_eval ha hc, asBool]
theorem RO_pick_f {x y z : Operand} {v : Value} (hc : ev st x = some (.bool false)) (hv : ev st z = some v) : RO c st Γ ⟨d, .pick x y z, ty, pos, af, g⟩ v := fun a w ha _ => by
  simp [execOp, ev_eval ha hv, ev_eval ha hc, asBool]
theorem RO_nilCheck {x : Operand} {p : Addr} (hv : ev st x = some (.pointer (some p))) : RO c st Γ ⟨d, .nilCheck x, ty, pos, af, g⟩ (.pointer (some p)) := fun a w ha _ => by
  simp [execOp, ev_eval ha hv]
theorem RO_fieldAddr {x : Operand} {T i b o off : Nat} [hf : FOff c.P T i off] (hv : ev st x = some (.pointer (some ⟨b, o, none⟩))) :
    RO c st Γ ⟨d, .fieldAddr T x i, ty, pos, af, g⟩ (.pointer (some ⟨b, o + off, none⟩)) := fun a w ha _ => by
  obtain ⟨s, h⟩ := hf.h
  unfold foffOf at h
  cases hu : c.P.underlying T with
  | none => rw [hu] at h; cases h
  | some ds =>
    rw [hu] at h
    cases ds <;> try (cases h; done)
    rename_i fs
    dsimp only at h
    cases hfi : fs[i]? with
    | none => rw [hfi] at h; cases h
    | some f =>
      rw [hfi] at h
      obtain ⟨s', hs', he⟩ := Option.map_eq_some_iff.1 h
      cases he
      simp [execOp, ev_eval ha hv, Instr.fieldAt, run_underlying hu, hfi, Instr.sureAddr, fieldPlace, run_sizeOf hs', add_none]
theorem RO_fieldAddr0 {x : Operand} {T i b off : Nat} [hf : FOff c.P T i off] (hv : ev st x = some (.pointer (some ⟨b, 0, none⟩))) :
    RO c st Γ ⟨d, .fieldAddr T x i, ty, pos, af, g⟩ (.pointer (some ⟨b, off, none⟩)) := by
  have := RO_fieldAddr (c := c) (Γ := Γ) (d := d) (ty := ty) (pos := pos) (af := af) (g := g) (T := T) (i := i) hv
  rwa [Nat.zero_add] at this
theorem RO_extract {x : Operand} {i : Nat} {vs : Array Value} {v : Value} (hv : ev st x = some (.tuple vs)) (hi : vs[i]? = some v) : RO c st Γ ⟨d, .extract x i, ty, pos, af, g⟩ v := fun a w ha _ => by
  simp [execOp, ev_eval ha hv, Instr.extract, hi]
theorem RO_not {x : Operand} {T : TypeId} {b : Bool} (hv : ev st x = some (.bool b)) : RO c st Γ ⟨d, .unOp .not T x, ty, pos, af, g⟩ (.bool (!b)) := fun a w ha _ => by
  simp [execOp, ev_eval ha hv, Op.unary]
theorem RO_neg {x : Operand} {T : TypeId} {k : IntKind} {n : Int} (hv : ev st x = some (.int k n)) : RO c st Γ ⟨d, .unOp .neg T x, ty, pos, af, g⟩ (.int k (k.wrap (0 - n))) := fun a w ha _ => by
  simp [execOp, ev_eval ha hv, Op.unary, Op.intArith]
theorem RO_convert {x : Operand} {S T : TypeId} {k k' j : IntKind} {n : Int} [hs : TInt c.P S k'] [ht : TInt c.P T k] (hv : ev st x = some (.int j n)) : RO c st Γ ⟨d, .convert S T x, ty, pos, af, g⟩ (.int k (k.wrap n)) := fun a w ha _ => by
  simp [execOp, ev_eval ha hv, convert, run_underlying hs.h, run_underlying ht.h, Conv.intToInt]
theorem RO_makeFunc {fn : Fn} {first captured : Array Operand} {fs cs : Array Value} (h1 : first.toList.mapM (ev st) = some fs.toList) (h2 : captured.toList.mapM (ev st) = some cs.toList) :
    RO c st Γ ⟨d, .makeFunc fn first captured, ty, pos, af, g⟩ (.func fn fs cs) := fun a w ha _ => by
  have key : ∀ (xs : List Operand) (vs : List Value), xs.mapM (ev st) = some vs → xs.map a.eval = vs := by
    intro xs
    induction xs with
    | nil => intro vs h; simp at h; simp [h]
    | cons x xs ih =>
      intro vs h
      simp only [List.mapM_cons, Option.bind_eq_bind, Option.bind_eq_some_iff] at h
      obtain ⟨v, hv, us, hu, h⟩ := h
      cases h
      simp [ev_eval ha hv, ih us hu]
  have e1 : first.map a.eval = fs := by rw [← Array.toList_inj]; simpa using key _ _ h1
  have e2 : captured.map a.eval = cs := by rw [← Array.toList_inj]; simpa using key _ _ h2
  simp [execOp, Instr.makeFunc, e1, e2]

/-! ### arithmetic, tests -/
theorem run_eqGuard_int {P : Program} {op : BinOp} {T : TypeId} {x y : Operand} {j k : IntKind} {m n : Int} {w : World} : (eqGuard op T x y (.int j m) (.int k n)).run P w = .ok () w := by
  unfold eqGuard; split <;> rfl
theorem RO_int {x y : Operand} {op : BinOp} {T U : TypeId} {k : IntKind} {m n : Int} {v : Value} (hx : ev st x = some (.int k m)) (hy : ev st y = some (.int k n)) (h : ∀ w, (binOp op T (.int k m) (.int k n)).run c.P w = .ok v w) :
    RO c st Γ ⟨d, .binOp op T x y U, ty, pos, af, g⟩ v := fun a w ha _ => by
  simp [execOp, ev_eval ha hx, ev_eval ha hy, run_eqGuard_int, h]
theorem RO_add {x y : Operand} {T U : TypeId} {k : IntKind} {m n : Int} (hx : ev st x = some (.int k m)) (hy : ev st y = some (.int k n)) : RO c st Γ ⟨d, .binOp .add T x y U, ty, pos, af, g⟩ (.int k (k.wrap (m + n))) :=
  RO_int hx hy fun w => by simp [binOp, Op.intArith]
theorem RO_sub {x y : Operand} {T U : TypeId} {k : IntKind} {m n : Int} (hx : ev st x = some (.int k m)) (hy : ev st y = some (.int k n)) : RO c st Γ ⟨d, .binOp .sub T x y U, ty, pos, af, g⟩ (.int k (k.wrap (m - n))) :=
  RO_int hx hy fun w => by simp [binOp, Op.intArith]
theorem RO_mul {x y : Operand} {T U : TypeId} {k : IntKind} {m n : Int} (hx : ev st x = some (.int k m)) (hy : ev st y = some (.int k n)) : RO c st Γ ⟨d, .binOp .mul T x y U, ty, pos, af, g⟩ (.int k (k.wrap (m * n))) :=
  RO_int hx hy fun w => by simp [binOp, Op.intArith]
theorem wrap_in {n : Int} (h1 : -9223372036854775808 ≤ n) (h2 : n ≤ 9223372036854775807) : IntKind.i64.wrap n = n := by
  unfold IntKind.wrap; simp [IntKind.bits, IntKind.signed]; omega
theorem RO_add_in {x y : Operand} {T U : TypeId} {m n : Int} (hx : ev st x = some (.int .i64 m)) (hy : ev st y = some (.int .i64 n)) (h : -9223372036854775808 ≤ m + n ∧ m + n ≤ 9223372036854775807) : RO c st Γ ⟨d, .binOp .add T x y U, ty, pos, af, g⟩ (.int .i64 (m + n)) := by
  have := RO_add (c := c) (Γ := Γ) (d := d) (ty := ty) (pos := pos) (af := af) (g := g) (T := T) (U := U) hx hy
  rwa [wrap_in h.1 h.2] at this
theorem RO_sub_in {x y : Operand} {T U : TypeId} {m n : Int} (hx : ev st x = some (.int .i64 m)) (hy : ev st y = some (.int .i64 n)) (h : -9223372036854775808 ≤ m - n ∧ m - n ≤ 9223372036854775807) : RO c st Γ ⟨d, .binOp .sub T x y U, ty, pos, af, g⟩ (.int .i64 (m - n)) := by
  have := RO_sub (c := c) (Γ := Γ) (d := d) (ty := ty) (pos := pos) (af := af) (g := g) (T := T) (U := U) hx hy
  rwa [wrap_in h.1 h.2] at this
theorem RO_mul_in {x y : Operand} {T U : TypeId} {m n : Int} (hx : ev st x = some (.int .i64 m)) (hy : ev st y = some (.int .i64 n)) (h : -9223372036854775808 ≤ m * n ∧ m * n ≤ 9223372036854775807) : RO c st Γ ⟨d, .binOp .mul T x y U, ty, pos, af, g⟩ (.int .i64 (m * n)) := by
  have := RO_mul (c := c) (Γ := Γ) (d := d) (ty := ty) (pos := pos) (af := af) (g := g) (T := T) (U := U) hx hy
  rwa [wrap_in h.1 h.2] at this
theorem RO_lss {x y : Operand} {T U : TypeId} {k : IntKind} {m n : Int} (hx : ev st x = some (.int k m)) (hy : ev st y = some (.int k n)) : RO c st Γ ⟨d, .binOp .lss T x y U, ty, pos, af, g⟩ (.bool (decide (m < n))) :=
  RO_int hx hy fun w => by simp [binOp, Op.intCmp]
theorem RO_leq {x y : Operand} {T U : TypeId} {k : IntKind} {m n : Int} (hx : ev st x = some (.int k m)) (hy : ev st y = some (.int k n)) : RO c st Γ ⟨d, .binOp .leq T x y U, ty, pos, af, g⟩ (.bool (decide (m ≤ n))) :=
  RO_int hx hy fun w => by simp [binOp, Op.intCmp]
theorem RO_gtr {x y : Operand} {T U : TypeId} {k : IntKind} {m n : Int} (hx : ev st x = some (.int k m)) (hy : ev st y = some (.int k n)) : RO c st Γ ⟨d, .binOp .gtr T x y U, ty, pos, af, g⟩ (.bool (decide (n < m))) :=
  RO_int hx hy fun w => by simp [binOp, Op.intCmp]
theorem RO_geq {x y : Operand} {T U : TypeId} {k : IntKind} {m n : Int} (hx : ev st x = some (.int k m)) (hy : ev st y = some (.int k n)) : RO c st Γ ⟨d, .binOp .geq T x y U, ty, pos, af, g⟩ (.bool (decide (n ≤ m))) :=
  RO_int hx hy fun w => by simp [binOp, Op.intCmp]
theorem RO_eql {x y : Operand} {T U : TypeId} {k : IntKind} {m n : Int} (hx : ev st x = some (.int k m)) (hy : ev st y = some (.int k n)) : RO c st Γ ⟨d, .binOp .eql T x y U, ty, pos, af, g⟩ (.bool (decide (m = n))) :=
  RO_int hx hy fun w => by simp [binOp, Op.intCmp]; rfl
theorem RO_neq {x y : Operand} {T U : TypeId} {k : IntKind} {m n : Int} (hx : ev st x = some (.int k m)) (hy : ev st y = some (.int k n)) : RO c st Γ ⟨d, .binOp .neq T x y U, ty, pos, af, g⟩ (.bool (!decide (m = n))) :=
  RO_int hx hy fun w => by simp [binOp, Op.intCmp, bne]; rfl

end
end Go.Proofs.YtaeefjcbmkiiaaaGreatDoor.Sl
/- What each operation does, said of temporaries and memory: reads of memory, new variables, stores, calls; strings. -/
namespace Go.Proofs.YtaeefjcbmkiiaaaGreatDoor.Sl
open Go Go.RowKit

/-! ### blocks of the list, found by their names -/
class InG (Γ : List Assn) (b : Nat) (o : outParam Obj) : Prop where
  h : ∃ Γ', Sel Γ (blk b o) Γ'
instance InG.here {Γ : List Assn} {b : Nat} {o : Obj} : InG (blk b o :: Γ) b o := ⟨_, .here⟩
instance (priority := low) InG.there {Γ : List Assn} {b : Nat} {o : Obj} {A : Assn} [h : InG Γ b o] : InG (A :: Γ) b o := let ⟨_, s⟩ := h.h; ⟨_, .there s⟩
/-- .. and what it stands beside. -/
class SelG (Γ : List Assn) (b : Nat) (o : outParam Obj) (Γ' : outParam (List Assn)) : Prop where
  h : Sel Γ (blk b o) Γ'
instance SelG.here {Γ : List Assn} {b : Nat} {o : Obj} : SelG (blk b o :: Γ) b o Γ := ⟨.here⟩
instance (priority := low) SelG.there {Γ Γ' : List Assn} {b : Nat} {o : Obj} {A : Assn} [h : SelG Γ b o Γ'] : SelG (A :: Γ) b o (A :: Γ') := ⟨.there h.h⟩

/-- n of a list's values from a place on. -/
inductive Take : List Value → Nat → List Value → Prop
  | zero {l : List Value} : Take l 0 []
  | succ {x : Value} {l vs : List Value} {n : Nat} : Take l n vs → Take (x :: l) (n + 1) (x :: vs)
inductive GetN : List Value → Nat → Nat → List Value → Prop
  | here {l vs : List Value} {n : Nat} : Take l n vs → GetN l 0 n vs
  | there {x : Value} {l vs : List Value} {o n : Nat} : GetN l o n vs → GetN (x :: l) (o + 1) n vs
/-- Values laid over a list's from a place on. -/
inductive PutN : List Value → Nat → List Value → List Value → Prop
  | nil {l : List Value} : PutN l 0 [] l
  | put {x v : Value} {l vs l' : List Value} : PutN l 0 vs l' → PutN (x :: l) 0 (v :: vs) (v :: l')
  | skip {x v : Value} {l vs l' : List Value} {n : Nat} : PutN l n (v :: vs) l' → PutN (x :: l) (n + 1) (v :: vs) (x :: l')
theorem Take.get {l vs : List Value} {n : Nat} (h : Take l n vs) : vs.length = n ∧ ∀ i, i < n → l[i]? = vs[i]? := by
  induction h with
  | zero => exact ⟨rfl, fun i hi => by omega⟩
  | succ _ ih => exact ⟨by simp [ih.1], fun i hi => by cases i with | zero => rfl | succ i => simpa using ih.2 i (by omega)⟩
theorem GetN.get {l vs : List Value} {o n : Nat} (h : GetN l o n vs) : vs.length = n ∧ ∀ i, i < n → l[o + i]? = vs[i]? := by
  induction h with
  | here h => exact ⟨h.get.1, fun i hi => by rw [Nat.zero_add]; exact h.get.2 i hi⟩
  | there _ ih => exact ⟨ih.1, fun i hi => by rw [show ∀ o : Nat, o + 1 + i = (o + i) + 1 by intro o; omega]; simpa using ih.2 i hi⟩
theorem PutN.get {l vs l' : List Value} {o : Nat} (h : PutN l o vs l') : o + vs.length ≤ l.length ∧ l'.length = l.length ∧ ∀ i, l'[i]? = if o ≤ i ∧ i < o + vs.length then vs[i - o]? else l[i]? := by
  induction h with
  | nil => exact ⟨by simp, rfl, fun i => by rw [if_neg (by simp)]⟩
  | @put x v l vs l' _ ih =>
    obtain ⟨h1, h2, h3⟩ := ih
    refine ⟨by simp at h1 ⊢; omega, by simp [h2], fun i => ?_⟩
    cases i with
    | zero => simp
    | succ i =>
      have := h3 i
      simp only [List.getElem?_cons_succ, this, List.length_cons, Nat.zero_add, Nat.zero_le, true_and, Nat.sub_zero]
      by_cases hi : i < vs.length
      · rw [if_pos hi, if_pos (by omega)]
      · rw [if_neg hi, if_neg (by omega)]
  | @skip x v l vs l' n _ ih =>
    obtain ⟨h1, h2, h3⟩ := ih
    refine ⟨by simp at h1 ⊢; omega, by simp [h2], fun i => ?_⟩
    cases i with
    | zero => simp
    | succ i =>
      have := h3 i
      simp only [List.getElem?_cons_succ, this]
      by_cases hi : n ≤ i ∧ i < n + (v :: vs).length
      · rw [if_pos hi, if_pos (by omega), show i + 1 - (n + 1) = i - n by omega]
      · rw [if_neg hi, if_neg (by omega)]

section
variable {c : Ctx} {k : List Item} {st : St} {Γ : List Assn} {d : Option Tmp} {ty : TypeId} {pos : String} {af : Array Edge} {g : Option (Nat × Bool)}

theorem cell_of {w : World} {b o : Nat} {l : List Value} {E : TypeId} {fz : Nat × Nat} {v : Value} (h : w.heap[b]? = some (.cells ⟨l⟩ E fz)) (hv : l[o]? = some v) : w.cell? ⟨b, o, none⟩ = some v := by
  unfold World.cell?
  simp only [h]
  simpa using hv

theorem run_loadCells {P : Program} {w : World} {b o : Nat} {vs : List Value} : (∀ i, i < vs.length → w.cell? ⟨b, o + i, none⟩ = vs[i]?) → ∀ (n i : Nat) (acc : Array Value), i + n = vs.length → acc.toList = vs.take i → (loadCellsFrom ⟨b, o, none⟩ i n acc).run P w = .ok ⟨vs⟩ w := by
  intro h n
  induction n with
  | zero =>
    intro i acc hi ha
    simp only [loadCellsFrom, Sem.run_pure]
    have : acc = ⟨vs⟩ := by rw [← Array.toList_inj]; rw [ha, List.take_of_length_le (by omega)]
    rw [this]
  | succ n ih =>
    intro i acc hi ha
    have hlt : i < vs.length := by omega
    have hc := h i hlt
    rw [List.getElem?_eq_getElem hlt] at hc
    simp only [loadCellsFrom, Sem.run_bind, run_load, add_none, hc, Result.andThen_ok]
    refine ih (i + 1) _ (by omega) ?_
    rw [Array.toList_push, ha, List.take_succ_eq_append_getElem hlt]

theorem run_loadVar_sc {P : Program} {w : World} {T b o : Nat} {v : Value} (ht : aggOf P T = some false) (h : w.cell? ⟨b, o, none⟩ = some v) : (loadVar T ⟨b, o, none⟩).run P w = .ok v w := by
  simp [loadVar, run_isAgg ht, h]
theorem run_loadVar_agg {P : Program} {w : World} {T b o n : Nat} {vs : List Value} (ht : aggOf P T = some true) (hs : szOf P T = some n) (hn : vs.length = n) (h : ∀ i, i < n → w.cell? ⟨b, o + i, none⟩ = vs[i]?) : (loadVar T ⟨b, o, none⟩).run P w = .ok (.agg ⟨vs⟩) w := by
  subst hn
  simp [loadVar, run_isAgg ht, run_sizeOf hs, loadCells, run_loadCells h vs.length 0 #[] (by simp) (by simp)]

/-- A variable's value, read. -/
theorem RO_load {x : Operand} {T b o : Nat} {l : List Value} {E : TypeId} {fz : Nat × Nat} {v : Value} [ht : TSc c.P T] (hv : ev st x = some (.pointer (some ⟨b, o, none⟩))) [hg : InG Γ b (.cells ⟨l⟩ E fz)] (hl : l[o]? = some v) :
    RO c st Γ ⟨d, .load T x, ty, pos, af, g⟩ v := fun a w ha hS => by
  obtain ⟨_, hs⟩ := hg.h
  simp [execOp, ev_eval ha hv, Instr.loadAt, Instr.sureAddr, run_loadVar_sc ht.a (cell_of (hS.blk hs).2 hl)]
theorem RO_loadAgg {x : Operand} {T b o n : Nat} {l vs : List Value} {E : TypeId} {fz : Nat × Nat} [ht : TAgg c.P T n] (hv : ev st x = some (.pointer (some ⟨b, o, none⟩))) [hg : InG Γ b (.cells ⟨l⟩ E fz)] (hl : GetN l o n vs) :
    RO c st Γ ⟨d, .load T x, ty, pos, af, g⟩ (.agg ⟨vs⟩) := fun a w ha hS => by
  obtain ⟨_, hs⟩ := hg.h
  obtain ⟨h1, h2⟩ := hl.get
  have := run_loadVar_agg (P := c.P) ht.a ht.s h1 (w := w) (b := b) (o := o) (fun i hi => by
    have hi' : i < vs.length := by omega
    rw [List.getElem?_eq_getElem hi']
    exact cell_of (hS.blk hs).2 (by rw [h2 i hi, List.getElem?_eq_getElem hi']))
  simp [execOp, ev_eval ha hv, Instr.loadAt, Instr.sureAddr, this]

/-! ### new variables, stores -/
theorem JS_of {ops : Array Oper} {rs : List Oper} {l : List Stp} {b : Frame} {cs : List Frame} {a : Act} {w : World} (h : JS c ops rs l k st Γ) (h1 : b.fn = c.f) (h2 : b.kind = .normal) (h3 : Agree c.n st a) (h4 : Sat c.B c.F Γ w) :
    (∀ r ∈ rs, Stable c.P ops r a w) ∧ CR c.P ops (Arr c b cs k) l a w := h b cs a w h1 h2 h3 h4

theorem JR_box {ops : Array Oper} {rs : List Oper} {l : List Stp} {x : Operand} {T : TypeId} {v : Value} (hg : gOk ops st ⟨d, .box T x, ty, pos, af, g⟩ = some true) (hd : dOk d c.n = true) (hv : ev st x = some v)
    (h : ∀ b, JS c ops rs l k (stput d (.pointer (some ⟨b, 0, none⟩)) st) (blk b (.cells v.cells T (0, 0)) :: Γ)) : JR c ops (⟨⟨d, .box T x, ty, pos, af, g⟩, false, rs⟩ :: l) k st Γ := by
  intro b cs a w h1 h2 h3 h4
  unfold CR
  simp only [gOk_wanted hg h3, if_true, Bool.false_eq_true, if_false]
  have : (execOp a.eval ⟨d, .box T x, ty, pos, af, g⟩).run c.P w = .ok (.value (.pointer (some ⟨w.heap.size, 0, none⟩))) (w.alloc (.cells v.cells T (0, 0))) := by
    simp [execOp, ev_eval h3 hv, Instr.box, newVar, newRow]
  rw [this]
  exact JS_of (h w.heap.size) h1 h2 (h3.put hd _) (h4.alloc _)
theorem JR_alloc {ops : Array Oper} {rs : List Oper} {l : List Stp} {T : TypeId} {z : Value} [hz : TZero c.P T z] (hg : gOk ops st ⟨d, .alloc T, ty, pos, af, g⟩ = some true) (hd : dOk d c.n = true)
    (h : ∀ b, JS c ops rs l k (stput d (.pointer (some ⟨b, 0, none⟩)) st) (blk b (.cells z.cells T (0, 0)) :: Γ)) : JR c ops (⟨⟨d, .alloc T, ty, pos, af, g⟩, false, rs⟩ :: l) k st Γ := by
  intro b cs a w h1 h2 h3 h4
  unfold CR
  simp only [gOk_wanted hg h3, if_true, Bool.false_eq_true, if_false]
  have : (execOp a.eval ⟨d, .alloc T, ty, pos, af, g⟩).run c.P w = .ok (.value (.pointer (some ⟨w.heap.size, 0, none⟩))) (w.alloc (.cells z.cells T (0, 0))) := by
    simp [execOp, Instr.alloc, newVar, newRow, run_zeroValue hz.z]
  rw [this]
  exact JS_of (h w.heap.size) h1 h2 (h3.put hd _) (h4.alloc _)

def one (v : Value) : Bool := match v with | .agg _ | .tuple _ => false | _ => true

theorem run_storeCells {P : Program} {b : Nat} {E : TypeId} {o : Nat} : ∀ (vs : List Value) (i : Nat) (l l' : List Value) (w : World), vs.all one = true → w.heap[b]? = some (.cells ⟨l⟩ E (0, 0)) → o + i + vs.length ≤ l.length →
    l'.length = l.length → (∀ j, l'[j]? = if o + i ≤ j ∧ j < o + i + vs.length then vs[j - (o + i)]? else l[j]?) →
    ∃ w', (storeCells ⟨b, o, none⟩ vs i).run P w = .ok () w' ∧ w'.heap = w.heap.setIfInBounds b (.cells ⟨l'⟩ E (0, 0)) ∧ w'.os = w.os ∧ w'.tape = w.tape ∧ w'.output = w.output
  | [], i, l, l', w, _, hb, hle, hlen, hl => by
    have : l' = l := by
      apply List.ext_getElem?
      intro j
      rw [hl j, if_neg (by simp)]
    subst this
    refine ⟨w, rfl, ?_, rfl, rfl, rfl⟩
    apply Array.ext_getElem?
    intro j
    by_cases e : b = j
    · subst e
      have hlt : b < w.heap.size := by
        rcases Nat.lt_or_ge b w.heap.size with h | h
        · exact h
        · rw [Array.getElem?_eq_none h] at hb; cases hb
      rw [hb]; simp [hlt]
    · rw [Array.getElem?_setIfInBounds_ne e]
  | v :: vs, i, l, l', w, hv, hb, hle, hlen, hl => by
    simp only [List.all_cons, Bool.and_eq_true] at hv
    simp only [List.length_cons] at hle hl
    have hlt : b < w.heap.size := by
      rcases Nat.lt_or_ge b w.heap.size with h | h
      · exact h
      · rw [Array.getElem?_eq_none h] at hb; cases hb
    have hol : o + i < l.length := by omega
    have hcell : w.cell? ⟨b, o + i, none⟩ = some l[o + i] := cell_of hb (List.getElem?_eq_getElem hol)
    have hfz : w.frozen? ⟨b, o + i, none⟩ = false := by unfold World.frozen?; simp [hb]
    have hone : v.oneCell' = true := by have := hv.1; cases v <;> first | rfl | (simp [one] at this)
    let w1 := w.setCell ⟨b, o + i, none⟩ v
    have hw1 : w1.heap = w.heap.setIfInBounds b (.cells ⟨l.set (o + i) v⟩ E (0, 0)) := by
      apply Array.ext_getElem?
      intro j
      simp only [w1, World.setCell, Array.getElem?_modify]
      by_cases e : b = j
      · subst e; rw [if_pos rfl, hb]; simp [hlt]
      · rw [if_neg e, Array.getElem?_setIfInBounds_ne e]
    obtain ⟨w', hr, hh, h1, h2, h3⟩ := run_storeCells (P := P) (b := b) (E := E) (o := o) vs (i + 1) (l.set (o + i) v) l' w1 hv.2 (by rw [hw1]; simp [hlt]) (by simp; omega) (by simp [hlen]) (fun j => by
      rw [hl j]
      by_cases e : o + i = j
      · subst e
        rw [if_pos (by omega), if_neg (by omega)]
        simp [hol]
      · rw [List.getElem?_set_ne e]
        by_cases hj : o + i ≤ j ∧ j < o + i + (vs.length + 1)
        · rw [if_pos hj, if_pos (by omega), show j - (o + i) = (j - (o + (i + 1))) + 1 by omega]; rfl
        · rw [if_neg hj, if_neg (by omega)])
    refine ⟨w', ?_, ?_, h1, h2, h3⟩
    · simp only [storeCells, Sem.run_bind, add_none, run_store _ _ _ _ _ hone, hcell, hfz, Bool.false_eq_true, if_false, Result.andThen_ok]
      exact hr
    · rw [hh, hw1]
      apply Array.ext_getElem?
      intro j
      by_cases e : b = j
      · subst e; simp [hlt]
      · rw [Array.getElem?_setIfInBounds_ne e, Array.getElem?_setIfInBounds_ne e, Array.getElem?_setIfInBounds_ne e]

theorem upd_sat {Γ' : List Assn} {b : Nat} {o o' : Obj} {w w' : World} (h : Sat c.B c.F Γ w) (s : Sel Γ (blk b o) Γ') (hw : w'.heap = w.heap.setIfInBounds b o') (h2 : w'.os = w.os) (h3 : w'.tape = w.tape) (h4 : w'.output = w.output) :
    Sat c.B c.F (blk b o' :: Γ') w' := (h.perm s.perm).write hw h2 h3 h4

theorem JR_store {ops : Array Oper} {rs : List Oper} {l : List Stp} {x y : Operand} {T b o n : Nat} {cl cl' vs : List Value} {E : TypeId} {Γ' : List Assn} {v : Value} (hg : gOk ops st ⟨d, .store T x y, ty, pos, af, g⟩ = some true) (hd : dOk d c.n = true)
    (hx : ev st x = some (.pointer (some ⟨b, o, none⟩))) (hy : ev st y = some v) [hs : SelG Γ b (.cells ⟨cl⟩ E (0, 0)) Γ'] (hsz : szOf c.P T = some n) (hvs : v.cells = ⟨vs⟩) (hn : vs.length = n) (hone : vs.all one = true) (hp : PutN cl o vs cl')
    (h : JS c ops rs l k (stput d undef st) (blk b (.cells ⟨cl'⟩ E (0, 0)) :: Γ')) : JR c ops (⟨⟨d, .store T x y, ty, pos, af, g⟩, false, rs⟩ :: l) k st Γ := by
  intro b' cs a w h1 h2 h3 h4
  unfold CR
  simp only [gOk_wanted hg h3, if_true, Bool.false_eq_true, if_false]
  obtain ⟨hp1, hp2, hp3⟩ := hp.get
  obtain ⟨w', hr, hh, e1, e2, e3⟩ := run_storeCells (P := c.P) (E := E) (o := o) vs 0 cl cl' w hone (h4.blk hs.h).2 (by omega) hp2 (fun j => by simpa using hp3 j)
  have : (execOp a.eval ⟨d, .store T x y, ty, pos, af, g⟩).run c.P w = .ok .skip w' := by
    simp [execOp, ev_eval h3 hx, ev_eval h3 hy, Instr.storeAt, Instr.sureAddr, storeVar, hvs, run_sizeOf hsz, hn, hr]
  rw [this]
  exact JS_of h h1 h2 (h3.put hd _) (upd_sat h4 hs.h hh e1 e2 e3)

/-! ### calls -/
theorem run_callFunc {P : Program} {f : FuncId} {args : Array Value} [hf : IsFn P f] {w : World} : (callFunc f args).run P w = .ok (.enter f args) w := by
  obtain ⟨fn, h1, h2, h3⟩ := hf.h
  unfold callFunc
  simp only [Sem.run_bind, run_program, Result.andThen_ok, h1, h2, h3, Bool.false_eq_true, if_false]
  rfl
theorem map_eval {n : Nat} {a : Act} (ha : Agree n st a) : ∀ (xs : List Operand) (vs : List Value), xs.mapM (ev st) = some vs → xs.map a.eval = vs := by
  intro xs
  induction xs with
  | nil => intro vs h; simp at h; simp [h]
  | cons x xs ih =>
    intro vs h
    simp only [List.mapM_cons, Option.bind_eq_bind, Option.bind_eq_some_iff] at h
    obtain ⟨v, hv, us, hu, h⟩ := h
    cases h
    simp [ev_eval ha hv, ih us hu]
/-- The values of a list of operands. -/
inductive Evs (st : St) : List Operand → List Value → Prop
  | nil : Evs st [] []
  | cons {x : Operand} {v : Value} {xs : List Operand} {vs : List Value} : ev st x = some v → Evs st xs vs → Evs st (x :: xs) (v :: vs)
theorem Evs.map {n : Nat} {a : Act} (ha : Agree n st a) {xs : List Operand} {vs : List Value} (h : Evs st xs vs) : xs.map a.eval = vs := by
  induction h with
  | nil => rfl
  | cons h1 _ ih => simp [ev_eval ha h1, ih]

theorem run_call {P : Program} {a : Act} {x : Operand} {xs : List Operand} {ats : Array TypeId} {f : FuncId} {first captured : Array Value} {vs : List Value} [IsFn P f] {w : World} (hx : a.eval x = .func (.func f) first captured) (hvs : xs.map a.eval = vs) :
    (execOp a.eval ⟨d, .call ⟨.value x, ⟨xs⟩, ats⟩, ty, pos, af, g⟩).run P w = .ok (.enter f (first ++ (⟨vs⟩ : Array Value) ++ captured)) w := by
  have hargs : (⟨xs⟩ : Array Operand).map a.eval = ⟨vs⟩ := by rw [← hvs]; rw [← Array.toList_inj]; simp
  simp only [execOp, resolve, hargs, hx, Deferred.ofValue, Sem.run_bind, Sem.run_pure, Result.andThen_ok, invoke, run_callFunc]

/-- A call, by its contract. -/
theorem JR_call {ops : Array Oper} {rs : List Oper} {l : List Stp} {x : Operand} {xs : List Operand} {ats : Array TypeId} {f : FuncId} {first captured : Array Value} {vs : List Value} {Pre R : List Assn} {Q : Value → List Assn → Prop} [IsFn c.P f]
    (hg : gOk ops st ⟨d, .call ⟨.value x, ⟨xs⟩, ats⟩, ty, pos, af, g⟩ = some true) (hd : dOk d c.n = true) (hx : ev st x = some (.func (.func f) first captured)) (hvs : Evs st xs vs) (ht : Tr c.P f (first.toList ++ vs ++ captured.toList) Pre Q) (hs : Split Γ Pre R)
    (h : ∀ v Γ', Q v Γ' → JS c ops rs l k (stput d v st) (Γ' ++ R)) : JR c ops (⟨⟨d, .call ⟨.value x, ⟨xs⟩, ats⟩, ty, pos, af, g⟩, false, rs⟩ :: l) k st Γ := by
  intro b cs a w h1 h2 h3 h4
  unfold CR
  simp only [gOk_wanted hg h3, if_true, Bool.false_eq_true, if_false]
  rw [run_call (ev_eval h3 hx) (hvs.map h3)]
  have hc := ht c.B (all (c.F :: R)) w (h4.perm hs.perm).frame
  rw [show (first.toList ++ vs ++ captured.toList).toArray = first ++ (⟨vs⟩ : Array Value) ++ captured by rw [← Array.toList_inj]; simp] at hc
  refine hc.mono ?_
  rintro e w' ⟨v, Γ', rfl, hQ, hS⟩
  exact JS_of (h v Γ' hQ) h1 h2 (h3.put hd v) hS.unframe
/-- A call that makes new memory alone, by what is known of its run in this world. -/
theorem Sat.below {B : World} {F : Assn} {w w' : World} (h : Sat B F Γ w) (hb : Below w.heap.size w w') : Sat B F Γ w' := by
  obtain ⟨h0, m, hm, hs⟩ := h
  refine ⟨h0.trans (hb.mono h0.size), m, fun b o e => ?_, hs⟩
  obtain ⟨h1, h2⟩ := hm b o e
  have hlt : b < w.heap.size := by
    rcases Nat.lt_or_ge b w.heap.size with h | h
    · exact h
    · rw [Array.getElem?_eq_none h] at h2; cases h2
  exact ⟨h1, by rw [hb.block b hlt]; exact h2⟩
theorem JR_callBelow {ops : Array Oper} {rs : List Oper} {l : List Stp} {x : Operand} {xs : List Operand} {ats : Array TypeId} {f : FuncId} {first captured : Array Value} {vs : List Value} {Q : Value → Prop} [IsFn c.P f]
    (hg : gOk ops st ⟨d, .call ⟨.value x, ⟨xs⟩, ats⟩, ty, pos, af, g⟩ = some true) (hd : dOk d c.n = true) (hx : ev st x = some (.func (.func f) first captured)) (hvs : Evs st xs vs)
    (ht : ∀ w, Sat c.B c.F Γ w → Calls c.P f (first.toList ++ vs ++ captured.toList).toArray w fun e w' => ∃ v, e = .returned v ∧ Q v ∧ Below w.heap.size w w')
    (h : ∀ v, Q v → JS c ops rs l k (stput d v st) Γ) : JR c ops (⟨⟨d, .call ⟨.value x, ⟨xs⟩, ats⟩, ty, pos, af, g⟩, false, rs⟩ :: l) k st Γ := by
  intro b cs a w h1 h2 h3 h4
  unfold CR
  simp only [gOk_wanted hg h3, if_true, Bool.false_eq_true, if_false]
  rw [run_call (ev_eval h3 hx) (hvs.map h3)]
  have hc := ht w h4
  rw [show (first.toList ++ vs ++ captured.toList).toArray = first ++ (⟨vs⟩ : Array Value) ++ captured by rw [← Array.toList_inj]; simp] at hc
  refine hc.mono ?_
  rintro e w' ⟨v, rfl, hQ, hS⟩
  exact JS_of (h v hQ) h1 h2 (h3.put hd v) (h4.below hS)
/-- .. and of a contract that asks nothing of memory: it gives that. -/
theorem Tr.below {P : Program} {f : FuncId} {args : List Value} {Q : Value → Prop} (h : ∀ w, Calls P f args.toArray w fun e w' => ∃ v, e = .returned v ∧ Q v ∧ Below w.heap.size w w') : Tr P f args [] fun v Γ => Q v ∧ Γ = [] :=
  fun _ _ w hS => (h w).mono fun _ _ ⟨v, he, hQ, hb⟩ => ⟨v, [], he, ⟨hQ, rfl⟩, hS.below hb⟩

/-! ### the built-in functions that read -/
theorem run_builtin {P : Program} {a : Act} {bi : Builtin} {xs : List Operand} {ats : Array TypeId} {vs : List Value} {w : World} (hvs : xs.map a.eval = vs) {r : Result Next}
    (h : ∀ cs, (builtin bi ats ty cs ⟨vs⟩).run P w = r) : (execOp a.eval ⟨d, .call ⟨.builtin bi, ⟨xs⟩, ats⟩, ty, pos, af, g⟩).run P w = r := by
  have hargs : (⟨xs⟩ : Array Operand).map a.eval = ⟨vs⟩ := by rw [← hvs]; rw [← Array.toList_inj]; simp
  simp only [execOp, resolve, hargs, Sem.run_bind, Sem.run_pure, Result.andThen_ok, invoke, h]
theorem RO_len_str {x : Operand} {T : TypeId} {s : ByteArray} [ht : TStr c.P T] (hv : ev st x = some (.string s)) : RO c st Γ ⟨d, .call ⟨.builtin .len, #[x], #[T]⟩, ty, pos, af, g⟩ (.int .i64 s.size) := fun a w ha _ => by
  refine run_builtin (vs := [.string s]) (by simp [ev_eval ha hv]) fun cs => ?_
  simp [builtin, Builtin.len_, run_underlying ht.h, goInt]
theorem RO_len_slice {x : Operand} {T E : TypeId} {p : Option Addr} {n m : Nat} [ht : TSlice c.P T E] (hv : ev st x = some (.slice p n m)) : RO c st Γ ⟨d, .call ⟨.builtin .len, #[x], #[T]⟩, ty, pos, af, g⟩ (.int .i64 n) := fun a w ha _ => by
  refine run_builtin (vs := [.slice p n m]) (by simp [ev_eval ha hv]) fun cs => ?_
  simp [builtin, Builtin.len_, run_underlying ht.h, goInt]
theorem RO_max {x y : Operand} {ats : Array TypeId} {k : IntKind} {m n : Int} (hx : ev st x = some (.int k m)) (hy : ev st y = some (.int k n)) : RO c st Γ ⟨d, .call ⟨.builtin .max, #[x, y], ats⟩, ty, pos, af, g⟩ (.int k (max m n)) := fun a w ha _ => by
  refine run_builtin (vs := [.int k m, .int k n]) (by simp [ev_eval ha hx, ev_eval ha hy]) fun cs => ?_
  simp [builtin, Builtin.max_, Builtin.max2]
  split <;> omega
theorem RO_min {x y : Operand} {ats : Array TypeId} {k : IntKind} {m n : Int} (hx : ev st x = some (.int k m)) (hy : ev st y = some (.int k n)) : RO c st Γ ⟨d, .call ⟨.builtin .min, #[x, y], ats⟩, ty, pos, af, g⟩ (.int k (min m n)) := fun a w ha _ => by
  refine run_builtin (vs := [.int k m, .int k n]) (by simp [ev_eval ha hx, ev_eval ha hy]) fun cs => ?_
  simp [builtin, Builtin.min_, Builtin.min2]
  split <;> omega
end
end Go.Proofs.YtaeefjcbmkiiaaaGreatDoor.Sl
/- The rules of a walk under short names, their side facts found by computing. -/
namespace Go.Proofs.YtaeefjcbmkiiaaaGreatDoor.Sl
open Go Go.RowKit
section
variable {c : Ctx} {k : List Item} {st : St} {Γ : List Assn} {d : Option Tmp} {ty : TypeId} {pos : String} {af : Array Edge} {g : Option (Nat × Bool)} {ops : Array Oper} {rs : List Oper} {l : List Stp} {fl : Bool}

/-! ### code -/
theorem sq {x y : Code} (h : J c (.code x :: .code y :: k) st Γ) : J c (.code (.seq x y) :: k) st Γ := J_seq h
theorem rg {id : Nat} {ops : Array Oper} (h : JR c ops (ops.toList.map Stp.plain) k st Γ) : J c (.code (.region id ops false) :: k) st Γ := J_region h
theorem nl (h : J c k st Γ) : JR c ops [] k st Γ := h
theorem jn (h : JR c ops l k st Γ) : JS c ops [] l k st Γ := JS_nil h
theorem kp (h : J c k st Γ) : J c (.code .skip :: k) st Γ := J_skip h
theorem bl {id : Nat} {x : Code} (h : J c (.code x :: .inBlock id :: k) st Γ) : J c (.code (.block id x) :: k) st Γ := J_block h
theorem ib {id : Nat} (h : J c k st Γ) : J c (.inBlock id :: k) st Γ := J_inBlock h
theorem xt {id : Nat} {k' : List Item} (h : J c k' st Γ) (hk : exitTo id k = some k' := by rfl) : J c (.code (.exit id) :: k) st Γ := J_exit hk h
theorem lb {l : Nat} (h : J c k st Γ) : J c (.code (.label l) :: k) st Γ := J_label h
theorem ct {x : Operand} {y z : Code} (h : J c (.code y :: k) st Γ) (hv : ev st x = some (.bool true) := by rfl) : J c (.code (.cond x y z) :: k) st Γ := J_cond_t hv h
theorem cf {x : Operand} {y z : Code} (h : J c (.code z :: k) st Γ) (hv : ev st x = some (.bool false) := by rfl) : J c (.code (.cond x y z) :: k) st Γ := J_cond_f hv h
theorem cd {x : Operand} {y z : Code} {p : Prop} {_ : Decidable p} (ht : p → J c (.code y :: k) st Γ) (hf : ¬ p → J c (.code z :: k) st Γ) (hv : ev st x = some (.bool (decide p)) := by rfl) : J c (.code (.cond x y z) :: k) st Γ := J_cond_d hv ht hf
theorem cn {x : Operand} {y z : Code} {p : Prop} {_ : Decidable p} (ht : ¬ p → J c (.code y :: k) st Γ) (hf : p → J c (.code z :: k) st Γ) (hv : ev st x = some (.bool (!decide p)) := by rfl) : J c (.code (.cond x y z) :: k) st Γ := J_cond_nd hv ht hf
theorem cb {x : Operand} {y z : Code} {t : Bool} (ht : t = true → J c (.code y :: k) st Γ) (hf : t = false → J c (.code z :: k) st Γ) (hv : ev st x = some (.bool t) := by rfl) : J c (.code (.cond x y z) :: k) st Γ := J_cond hv ht hf

/-! ### operations that read -/
theorem ro {o : Oper} {v : Value} (h : JR c ops l k (stput o.dst v st) Γ) (hv : RO c st Γ o v) (hg : gOk ops st o = some true) (hd : dOk o.dst c.n = true) : JR c ops (⟨o, fl, []⟩ :: l) k st Γ := by
  cases fl
  · exact JR_rv hg hd hv (JS_nil h)
  · exact JR_ro hg hd hv h
theorem sk {o : Oper} (h : JR c ops l k (stput o.dst undef st) Γ) (hg : gOk ops st o = some false := by rfl) (hd : dOk o.dst c.n = true := by rfl) : JR c ops (⟨o, fl, rs⟩ :: l) k st Γ := JR_skip hg hd h
theorem mv {x : Operand} {v : Value} (h : JR c ops l k (stput d v st) Γ) (hv : ev st x = some v := by rfl) (hg : gOk ops st ⟨d, .move x, ty, pos, af, g⟩ = some true := by rfl) (hd : dOk d c.n = true := by rfl) : JR c ops (⟨⟨d, .move x, ty, pos, af, g⟩, fl, []⟩ :: l) k st Γ := ro h (RO_move hv) hg hd
theorem asn {x : Operand} {v : Value} (h : JS c ops rs l k (stput d v st) Γ) (hv : ev st x = some v := by rfl) (hg : gOk ops st ⟨d, .assign x, ty, pos, af, g⟩ = some true := by rfl) (hd : dOk d c.n = true := by rfl) : JR c ops (⟨⟨d, .assign x, ty, pos, af, g⟩, false, rs⟩ :: l) k st Γ := JR_rv hg hd (RO_assign hv) h
theorem af_ {x : Operand} {v : Value} (h : JR c ops l k (stput d v st) Γ) (hv : ev st x = some v := by rfl) (hg : gOk ops st ⟨d, .assign x, ty, pos, af, g⟩ = some true := by rfl) (hd : dOk d c.n = true := by rfl) : JR c ops (⟨⟨d, .assign x, ty, pos, af, g⟩, true, []⟩ :: l) k st Γ := ro h (RO_assign hv) hg hd
theorem p1 {x y z : Operand} {v : Value} (h : JR c ops l k (stput d v st) Γ) (hc : ev st x = some (.bool true) := by rfl) (hv : ev st y = some v := by rfl) (hg : gOk ops st ⟨d, .pick x y z, ty, pos, af, g⟩ = some true := by rfl) (hd : dOk d c.n = true := by rfl) : JR c ops (⟨⟨d, .pick x y z, ty, pos, af, g⟩, fl, []⟩ :: l) k st Γ := ro h (RO_pick_t hc hv) hg hd
theorem p0 {x y z : Operand} {v : Value} (h : JR c ops l k (stput d v st) Γ) (hc : ev st x = some (.bool false) := by rfl) (hv : ev st z = some v := by rfl) (hg : gOk ops st ⟨d, .pick x y z, ty, pos, af, g⟩ = some true := by rfl) (hd : dOk d c.n = true := by rfl) : JR c ops (⟨⟨d, .pick x y z, ty, pos, af, g⟩, fl, []⟩ :: l) k st Γ := ro h (RO_pick_f hc hv) hg hd
theorem nc {x : Operand} {p : Addr} (h : JR c ops l k (stput d (.pointer (some p)) st) Γ) (hv : ev st x = some (.pointer (some p)) := by rfl) (hg : gOk ops st ⟨d, .nilCheck x, ty, pos, af, g⟩ = some true := by rfl) (hd : dOk d c.n = true := by rfl) : JR c ops (⟨⟨d, .nilCheck x, ty, pos, af, g⟩, fl, []⟩ :: l) k st Γ := ro h (RO_nilCheck hv) hg hd
theorem f0 {x : Operand} {T i b off : Nat} [hf : FOff c.P T i off] (h : JR c ops l k (stput d (.pointer (some ⟨b, off, none⟩)) st) Γ) (hv : ev st x = some (.pointer (some ⟨b, 0, none⟩)) := by rfl) (hg : gOk ops st ⟨d, .fieldAddr T x i, ty, pos, af, g⟩ = some true := by rfl) (hd : dOk d c.n = true := by rfl) : JR c ops (⟨⟨d, .fieldAddr T x i, ty, pos, af, g⟩, fl, []⟩ :: l) k st Γ := ro h (RO_fieldAddr0 hv) hg hd
theorem fa {x : Operand} {T i b o off : Nat} [hf : FOff c.P T i off] (h : JR c ops l k (stput d (.pointer (some ⟨b, o + off, none⟩)) st) Γ) (hv : ev st x = some (.pointer (some ⟨b, o, none⟩)) := by rfl) (hg : gOk ops st ⟨d, .fieldAddr T x i, ty, pos, af, g⟩ = some true := by rfl) (hd : dOk d c.n = true := by rfl) : JR c ops (⟨⟨d, .fieldAddr T x i, ty, pos, af, g⟩, fl, []⟩ :: l) k st Γ := ro h (RO_fieldAddr hv) hg hd
theorem xtr {x : Operand} {i : Nat} {vs : Array Value} {v : Value} (h : JR c ops l k (stput d v st) Γ) (hv : ev st x = some (.tuple vs) := by rfl) (hi : vs[i]? = some v := by rfl) (hg : gOk ops st ⟨d, .extract x i, ty, pos, af, g⟩ = some true := by rfl) (hd : dOk d c.n = true := by rfl) : JR c ops (⟨⟨d, .extract x i, ty, pos, af, g⟩, fl, []⟩ :: l) k st Γ := ro h (RO_extract hv hi) hg hd
theorem nt {x : Operand} {T : TypeId} {b : Bool} (h : JR c ops l k (stput d (.bool (!b)) st) Γ) (hv : ev st x = some (.bool b) := by rfl) (hg : gOk ops st ⟨d, .unOp .not T x, ty, pos, af, g⟩ = some true := by rfl) (hd : dOk d c.n = true := by rfl) : JR c ops (⟨⟨d, .unOp .not T x, ty, pos, af, g⟩, fl, []⟩ :: l) k st Γ := ro h (RO_not hv) hg hd
theorem ng {x : Operand} {T : TypeId} {k' : IntKind} {n : Int} (h : JR c ops l k (stput d (.int k' (k'.wrap (0 - n))) st) Γ) (hv : ev st x = some (.int k' n) := by rfl) (hg : gOk ops st ⟨d, .unOp .neg T x, ty, pos, af, g⟩ = some true := by rfl) (hd : dOk d c.n = true := by rfl) : JR c ops (⟨⟨d, .unOp .neg T x, ty, pos, af, g⟩, fl, []⟩ :: l) k st Γ := ro h (RO_neg hv) hg hd
theorem cv {x : Operand} {S T : TypeId} {i k' j : IntKind} {n : Int} [TInt c.P S k'] [TInt c.P T i] (h : JR c ops l k (stput d (.int i (i.wrap n)) st) Γ) (hv : ev st x = some (.int j n) := by rfl) (hg : gOk ops st ⟨d, .convert S T x, ty, pos, af, g⟩ = some true := by rfl) (hd : dOk d c.n = true := by rfl) : JR c ops (⟨⟨d, .convert S T x, ty, pos, af, g⟩, fl, []⟩ :: l) k st Γ := ro h (RO_convert hv) hg hd
theorem mf {fn : Fn} {first captured : Array Operand} {fs cs : List Value} (h : JR c ops l k (stput d (.func fn ⟨fs⟩ ⟨cs⟩) st) Γ) (h1 : Evs st first.toList fs) (h2 : Evs st captured.toList cs) (hg : gOk ops st ⟨d, .makeFunc fn first captured, ty, pos, af, g⟩ = some true := by rfl) (hd : dOk d c.n = true := by rfl) : JR c ops (⟨⟨d, .makeFunc fn first captured, ty, pos, af, g⟩, fl, []⟩ :: l) k st Γ := ro h (fun a w ha _ => by
  have e1 : first.map a.eval = ⟨fs⟩ := by rw [← Array.toList_inj]; simpa using h1.map ha
  have e2 : captured.map a.eval = ⟨cs⟩ := by rw [← Array.toList_inj]; simpa using h2.map ha
  simp [execOp, Instr.makeFunc, e1, e2]) hg hd
section
variable {x y : Operand} {T U : TypeId} {i : IntKind} {m n : Int}
theorem ad (h : JR c ops l k (stput d (.int .i64 (m + n)) st) Γ) (hx : ev st x = some (.int .i64 m) := by rfl) (hy : ev st y = some (.int .i64 n) := by rfl) (hb : -9223372036854775808 ≤ m + n ∧ m + n ≤ 9223372036854775807 := by omega) (hg : gOk ops st ⟨d, .binOp .add T x y U, ty, pos, af, g⟩ = some true := by rfl) (hd : dOk d c.n = true := by rfl) : JR c ops (⟨⟨d, .binOp .add T x y U, ty, pos, af, g⟩, fl, []⟩ :: l) k st Γ := ro h (RO_add_in hx hy hb) hg hd
theorem aw (h : JR c ops l k (stput d (.int i (i.wrap (m + n))) st) Γ) (hx : ev st x = some (.int i m) := by rfl) (hy : ev st y = some (.int i n) := by rfl) (hg : gOk ops st ⟨d, .binOp .add T x y U, ty, pos, af, g⟩ = some true := by rfl) (hd : dOk d c.n = true := by rfl) : JR c ops (⟨⟨d, .binOp .add T x y U, ty, pos, af, g⟩, fl, []⟩ :: l) k st Γ := ro h (RO_add hx hy) hg hd
theorem sb (h : JR c ops l k (stput d (.int .i64 (m - n)) st) Γ) (hx : ev st x = some (.int .i64 m) := by rfl) (hy : ev st y = some (.int .i64 n) := by rfl) (hb : -9223372036854775808 ≤ m - n ∧ m - n ≤ 9223372036854775807 := by omega) (hg : gOk ops st ⟨d, .binOp .sub T x y U, ty, pos, af, g⟩ = some true := by rfl) (hd : dOk d c.n = true := by rfl) : JR c ops (⟨⟨d, .binOp .sub T x y U, ty, pos, af, g⟩, fl, []⟩ :: l) k st Γ := ro h (RO_sub_in hx hy hb) hg hd
theorem sw (h : JR c ops l k (stput d (.int i (i.wrap (m - n))) st) Γ) (hx : ev st x = some (.int i m) := by rfl) (hy : ev st y = some (.int i n) := by rfl) (hg : gOk ops st ⟨d, .binOp .sub T x y U, ty, pos, af, g⟩ = some true := by rfl) (hd : dOk d c.n = true := by rfl) : JR c ops (⟨⟨d, .binOp .sub T x y U, ty, pos, af, g⟩, fl, []⟩ :: l) k st Γ := ro h (RO_sub hx hy) hg hd
theorem ml (h : JR c ops l k (stput d (.int .i64 (m * n)) st) Γ) (hx : ev st x = some (.int .i64 m) := by rfl) (hy : ev st y = some (.int .i64 n) := by rfl) (hb : -9223372036854775808 ≤ m * n ∧ m * n ≤ 9223372036854775807 := by omega) (hg : gOk ops st ⟨d, .binOp .mul T x y U, ty, pos, af, g⟩ = some true := by rfl) (hd : dOk d c.n = true := by rfl) : JR c ops (⟨⟨d, .binOp .mul T x y U, ty, pos, af, g⟩, fl, []⟩ :: l) k st Γ := ro h (RO_mul_in hx hy hb) hg hd
theorem mw (h : JR c ops l k (stput d (.int i (i.wrap (m * n))) st) Γ) (hx : ev st x = some (.int i m) := by rfl) (hy : ev st y = some (.int i n) := by rfl) (hg : gOk ops st ⟨d, .binOp .mul T x y U, ty, pos, af, g⟩ = some true := by rfl) (hd : dOk d c.n = true := by rfl) : JR c ops (⟨⟨d, .binOp .mul T x y U, ty, pos, af, g⟩, fl, []⟩ :: l) k st Γ := ro h (RO_mul hx hy) hg hd
theorem lss (h : JR c ops l k (stput d (.bool (decide (m < n))) st) Γ) (hx : ev st x = some (.int i m) := by rfl) (hy : ev st y = some (.int i n) := by rfl) (hg : gOk ops st ⟨d, .binOp .lss T x y U, ty, pos, af, g⟩ = some true := by rfl) (hd : dOk d c.n = true := by rfl) : JR c ops (⟨⟨d, .binOp .lss T x y U, ty, pos, af, g⟩, fl, []⟩ :: l) k st Γ := ro h (RO_lss hx hy) hg hd
theorem leq (h : JR c ops l k (stput d (.bool (decide (m ≤ n))) st) Γ) (hx : ev st x = some (.int i m) := by rfl) (hy : ev st y = some (.int i n) := by rfl) (hg : gOk ops st ⟨d, .binOp .leq T x y U, ty, pos, af, g⟩ = some true := by rfl) (hd : dOk d c.n = true := by rfl) : JR c ops (⟨⟨d, .binOp .leq T x y U, ty, pos, af, g⟩, fl, []⟩ :: l) k st Γ := ro h (RO_leq hx hy) hg hd
theorem gtr (h : JR c ops l k (stput d (.bool (decide (n < m))) st) Γ) (hx : ev st x = some (.int i m) := by rfl) (hy : ev st y = some (.int i n) := by rfl) (hg : gOk ops st ⟨d, .binOp .gtr T x y U, ty, pos, af, g⟩ = some true := by rfl) (hd : dOk d c.n = true := by rfl) : JR c ops (⟨⟨d, .binOp .gtr T x y U, ty, pos, af, g⟩, fl, []⟩ :: l) k st Γ := ro h (RO_gtr hx hy) hg hd
theorem geq (h : JR c ops l k (stput d (.bool (decide (n ≤ m))) st) Γ) (hx : ev st x = some (.int i m) := by rfl) (hy : ev st y = some (.int i n) := by rfl) (hg : gOk ops st ⟨d, .binOp .geq T x y U, ty, pos, af, g⟩ = some true := by rfl) (hd : dOk d c.n = true := by rfl) : JR c ops (⟨⟨d, .binOp .geq T x y U, ty, pos, af, g⟩, fl, []⟩ :: l) k st Γ := ro h (RO_geq hx hy) hg hd
theorem eql (h : JR c ops l k (stput d (.bool (decide (m = n))) st) Γ) (hx : ev st x = some (.int i m) := by rfl) (hy : ev st y = some (.int i n) := by rfl) (hg : gOk ops st ⟨d, .binOp .eql T x y U, ty, pos, af, g⟩ = some true := by rfl) (hd : dOk d c.n = true := by rfl) : JR c ops (⟨⟨d, .binOp .eql T x y U, ty, pos, af, g⟩, fl, []⟩ :: l) k st Γ := ro h (RO_eql hx hy) hg hd
theorem neq (h : JR c ops l k (stput d (.bool (!decide (m = n))) st) Γ) (hx : ev st x = some (.int i m) := by rfl) (hy : ev st y = some (.int i n) := by rfl) (hg : gOk ops st ⟨d, .binOp .neq T x y U, ty, pos, af, g⟩ = some true := by rfl) (hd : dOk d c.n = true := by rfl) : JR c ops (⟨⟨d, .binOp .neq T x y U, ty, pos, af, g⟩, fl, []⟩ :: l) k st Γ := ro h (RO_neq hx hy) hg hd
theorem mx {ats : Array TypeId} (h : JR c ops l k (stput d (.int i (max m n)) st) Γ) (hx : ev st x = some (.int i m) := by rfl) (hy : ev st y = some (.int i n) := by rfl) (hg : gOk ops st ⟨d, .call ⟨.builtin .max, #[x, y], ats⟩, ty, pos, af, g⟩ = some true := by rfl) (hd : dOk d c.n = true := by rfl) : JR c ops (⟨⟨d, .call ⟨.builtin .max, #[x, y], ats⟩, ty, pos, af, g⟩, fl, []⟩ :: l) k st Γ := ro h (RO_max hx hy) hg hd
theorem mn {ats : Array TypeId} (h : JR c ops l k (stput d (.int i (min m n)) st) Γ) (hx : ev st x = some (.int i m) := by rfl) (hy : ev st y = some (.int i n) := by rfl) (hg : gOk ops st ⟨d, .call ⟨.builtin .min, #[x, y], ats⟩, ty, pos, af, g⟩ = some true := by rfl) (hd : dOk d c.n = true := by rfl) : JR c ops (⟨⟨d, .call ⟨.builtin .min, #[x, y], ats⟩, ty, pos, af, g⟩, fl, []⟩ :: l) k st Γ := ro h (RO_min hx hy) hg hd
theorem ls {s : ByteArray} [TStr c.P T] (h : JR c ops l k (stput d (.int .i64 s.size) st) Γ) (hv : ev st x = some (.string s) := by rfl) (hg : gOk ops st ⟨d, .call ⟨.builtin .len, #[x], #[T]⟩, ty, pos, af, g⟩ = some true := by rfl) (hd : dOk d c.n = true := by rfl) : JR c ops (⟨⟨d, .call ⟨.builtin .len, #[x], #[T]⟩, ty, pos, af, g⟩, fl, []⟩ :: l) k st Γ := ro h (RO_len_str hv) hg hd
theorem ll {E : TypeId} {p : Option Addr} {n m : Nat} [TSlice c.P T E] (h : JR c ops l k (stput d (.int .i64 n) st) Γ) (hv : ev st x = some (.slice p n m) := by rfl) (hg : gOk ops st ⟨d, .call ⟨.builtin .len, #[x], #[T]⟩, ty, pos, af, g⟩ = some true := by rfl) (hd : dOk d c.n = true := by rfl) : JR c ops (⟨⟨d, .call ⟨.builtin .len, #[x], #[T]⟩, ty, pos, af, g⟩, fl, []⟩ :: l) k st Γ := ro h (RO_len_slice hv) hg hd
theorem ld {b o : Nat} {cl : List Value} {E : TypeId} {fz : Nat × Nat} {v : Value} [TSc c.P T] [InG Γ b (.cells ⟨cl⟩ E fz)] (hv : ev st x = some (.pointer (some ⟨b, o, none⟩))) (h : JR c ops l k (stput d v st) Γ) (hl : cl[o]? = some v := by rfl) (hg : gOk ops st ⟨d, .load T x, ty, pos, af, g⟩ = some true := by rfl) (hd : dOk d c.n = true := by rfl) : JR c ops (⟨⟨d, .load T x, ty, pos, af, g⟩, fl, []⟩ :: l) k st Γ := ro h (RO_load hv hl) hg hd
theorem la {b o n : Nat} {cl vs : List Value} {E : TypeId} {fz : Nat × Nat} [TAgg c.P T n] [InG Γ b (.cells ⟨cl⟩ E fz)] (hv : ev st x = some (.pointer (some ⟨b, o, none⟩))) (h : JR c ops l k (stput d (.agg ⟨vs⟩) st) Γ) (hl : GetN cl o n vs := by (repeat constructor)) (hg : gOk ops st ⟨d, .load T x, ty, pos, af, g⟩ = some true := by rfl) (hd : dOk d c.n = true := by rfl) : JR c ops (⟨⟨d, .load T x, ty, pos, af, g⟩, fl, []⟩ :: l) k st Γ := ro h (RO_loadAgg hv hl) hg hd
theorem bx {v : Value} {cl : List Value} (h : ∀ b, JS c ops rs l k (stput d (.pointer (some ⟨b, 0, none⟩)) st) (blk b (.cells ⟨cl⟩ T (0, 0)) :: Γ)) (hv : ev st x = some v := by rfl) (hc : v.cells = ⟨cl⟩ := by rfl) (hg : gOk ops st ⟨d, .box T x, ty, pos, af, g⟩ = some true := by rfl) (hd : dOk d c.n = true := by rfl) : JR c ops (⟨⟨d, .box T x, ty, pos, af, g⟩, false, rs⟩ :: l) k st Γ := JR_box hg hd hv (by rw [hc]; exact h)
theorem al {z : Value} {cl : List Value} [TZero c.P T z] (h : ∀ b, JS c ops rs l k (stput d (.pointer (some ⟨b, 0, none⟩)) st) (blk b (.cells ⟨cl⟩ T (0, 0)) :: Γ)) (hc : z.cells = ⟨cl⟩ := by rfl) (hg : gOk ops st ⟨d, .alloc T, ty, pos, af, g⟩ = some true := by rfl) (hd : dOk d c.n = true := by rfl) : JR c ops (⟨⟨d, .alloc T, ty, pos, af, g⟩, false, rs⟩ :: l) k st Γ := JR_alloc hg hd (by rw [hc]; exact h)
theorem sr {b o n bb : Nat} {cl cl' vs : List Value} {E : TypeId} {Γ' : List Assn} {v : Value} [SelG Γ b (.cells ⟨cl⟩ E (0, 0)) Γ'] [hz : ESize c.P T n bb] (hx : ev st x = some (.pointer (some ⟨b, o, none⟩))) (h : JS c ops rs l k (stput d undef st) (blk b (.cells ⟨cl'⟩ E (0, 0)) :: Γ')) (hy : ev st y = some v := by rfl)
    (hvs : v.cells = ⟨vs⟩ := by rfl) (hn : vs.length = n := by rfl) (hone : vs.all one = true := by rfl) (hp : PutN cl o vs cl' := by (repeat constructor)) (hg : gOk ops st ⟨d, .store T x y, ty, pos, af, g⟩ = some true := by rfl) (hd : dOk d c.n = true := by rfl) : JR c ops (⟨⟨d, .store T x y, ty, pos, af, g⟩, false, rs⟩ :: l) k st Γ :=
  JR_store hg hd hx hy (szOf_of hz.h) hvs hn hone hp h
end
/-- A guard that is not known: by cases. -/
theorem gs {o : Oper} {j d : Nat} {want t : Bool} (ht : t = true → JR c ops (⟨o, fl, rs⟩ :: l) k ((d, .bool true) :: st) Γ) (hf : t = false → JR c ops (⟨o, fl, rs⟩ :: l) k ((d, .bool false) :: st) Γ)
    (hg : o.guard = some (j, want) := by rfl) (hd : (ops[j]?).bind (·.dst) = some d := by rfl) (hv : look st d = some (.bool t) := by rfl) : JR c ops (⟨o, fl, rs⟩ :: l) k st Γ := by
  intro b cs a w h1 h2 h3 h4
  have key : ∀ u, look st d = some (.bool u) → Agree c.n ((d, .bool u) :: st) a := fun u hu => ⟨h3.1, h3.2.1, fun x v hx => by
    unfold look at hx
    cases e : Nat.beq d x with
    | true => rw [e] at hx; cases hx; rw [← Nat.eq_of_beq_eq_true e]; exact h3.2.2 d _ hu
    | false => rw [e] at hx; exact h3.2.2 x v hx⟩
  cases t
  · exact hf rfl b cs a w h1 h2 (key false hv) h4
  · exact ht rfl b cs a w h1 h2 (key true hv) h4
theorem gd {o : Oper} {j d : Nat} {want : Bool} {p : Prop} {_ : Decidable p} (ht : p → JR c ops (⟨o, fl, rs⟩ :: l) k ((d, .bool true) :: st) Γ) (hf : ¬ p → JR c ops (⟨o, fl, rs⟩ :: l) k ((d, .bool false) :: st) Γ)
    (hg : o.guard = some (j, want) := by rfl) (hd : (ops[j]?).bind (·.dst) = some d := by rfl) (hv : look st d = some (.bool (decide p)) := by rfl) : JR c ops (⟨o, fl, rs⟩ :: l) k st Γ :=
  gs (fun h => ht (of_decide_eq_true h)) (fun h => hf (of_decide_eq_false h)) hg hd hv
theorem gn {o : Oper} {j d : Nat} {want : Bool} {p : Prop} {_ : Decidable p} (ht : ¬ p → JR c ops (⟨o, fl, rs⟩ :: l) k ((d, .bool true) :: st) Γ) (hf : p → JR c ops (⟨o, fl, rs⟩ :: l) k ((d, .bool false) :: st) Γ)
    (hg : o.guard = some (j, want) := by rfl) (hd : (ops[j]?).bind (·.dst) = some d := by rfl) (hv : look st d = some (.bool (!decide p)) := by rfl) : JR c ops (⟨o, fl, rs⟩ :: l) k st Γ :=
  gs (fun h => ht (of_decide_eq_false (by simpa using h))) (fun h => hf (of_decide_eq_true (by simpa using h))) hg hd hv
end
end Go.Proofs.YtaeefjcbmkiiaaaGreatDoor.Sl
/- Strings, as lists of bytes; equality of flat structs. -/
namespace Go.Proofs.YtaeefjcbmkiiaaaGreatDoor.Sl
open Go Go.RowKit

/-- A string of a list of bytes. -/
abbrev bs (l : List UInt8) : ByteArray := ByteArray.mk l.toArray
abbrev vs (l : List UInt8) : Value := .string (bs l)
theorem bs_eta (s : ByteArray) : bs s.data.toList = s := by
  obtain ⟨⟨l⟩⟩ := s; rfl
theorem bs_size (l : List UInt8) : (bs l).size = l.length := by simp [ByteArray.size]
theorem bs_inj {a b : List UInt8} : bs a = bs b ↔ a = b := by
  constructor
  · intro h
    have := congrArg (fun s : ByteArray => s.data.toList) h
    simpa using this
  · rintro rfl; rfl
theorem bs_append (a b : List UInt8) : bs a ++ bs b = bs (a ++ b) := by
  show ByteArray.append _ _ = _
  apply ByteArray.ext
  simp
theorem bs_extract (a : List UInt8) (i j : Nat) : (bs a).extract i j = bs ((a.take j).drop i) := by
  apply ByteArray.ext
  simp [ByteArray.data_extract, List.drop_take]

section
variable {c : Ctx} {k : List Item} {st : St} {Γ : List Assn} {d : Option Tmp} {ty : TypeId} {pos : String} {af : Array Edge} {g : Option (Nat × Bool)} {ops : Array Oper} {rs : List Oper} {l : List Stp} {fl : Bool}
variable {x y : Operand} {T U : TypeId} {a b : List UInt8}

theorem run_eqGuard_str {P : Program} {op : BinOp} {T : TypeId} {x y : Operand} {s t : ByteArray} {w : World} : (eqGuard op T x y (.string s) (.string t)).run P w = .ok () w := by
  unfold eqGuard; split <;> rfl
theorem RO_str {op : BinOp} {v : Value} (hx : ev st x = some (vs a)) (hy : ev st y = some (vs b)) (h : ∀ w, (binOp op T (vs a) (vs b)).run c.P w = .ok v w) :
    RO c st Γ ⟨d, .binOp op T x y U, ty, pos, af, g⟩ v := fun ac w ha _ => by
  simp [execOp, ev_eval ha hx, ev_eval ha hy, run_eqGuard_str, h]
theorem cc (h : JR c ops l k (stput d (vs (a ++ b)) st) Γ) (hx : ev st x = some (vs a) := by rfl) (hy : ev st y = some (vs b) := by rfl) (hb : a.length + b.length ≤ 9223372036854775807 := by omega)
    (hg : gOk ops st ⟨d, .binOp .add T x y U, ty, pos, af, g⟩ = some true := by rfl) (hd : dOk d c.n = true := by rfl) : JR c ops (⟨⟨d, .binOp .add T x y U, ty, pos, af, g⟩, fl, []⟩ :: l) k st Γ :=
  ro h (RO_str hx hy fun w => by
    simp only [binOp, Op.stringOp, bs_size, bs_append]
    have hmax : IntKind.i64.max = 9223372036854775807 := by decide
    rw [if_neg (by rw [hmax]; omega)]
    rfl) hg hd
theorem seq (h : JR c ops l k (stput d (.bool (decide (a = b))) st) Γ) (hx : ev st x = some (vs a) := by rfl) (hy : ev st y = some (vs b) := by rfl) (hg : gOk ops st ⟨d, .binOp .eql T x y U, ty, pos, af, g⟩ = some true := by rfl) (hd : dOk d c.n = true := by rfl) : JR c ops (⟨⟨d, .binOp .eql T x y U, ty, pos, af, g⟩, fl, []⟩ :: l) k st Γ :=
  ro h (RO_str hx hy fun w => by
    simp only [binOp, Op.stringOp, ByteArray.toList_mk, Sem.run_pure]
    have e : (a == b) = decide (a = b) := by by_cases h : a = b <;> simp [h]
    rw [e]) hg hd
theorem sne (h : JR c ops l k (stput d (.bool (!decide (a = b))) st) Γ) (hx : ev st x = some (vs a) := by rfl) (hy : ev st y = some (vs b) := by rfl) (hg : gOk ops st ⟨d, .binOp .neq T x y U, ty, pos, af, g⟩ = some true := by rfl) (hd : dOk d c.n = true := by rfl) : JR c ops (⟨⟨d, .binOp .neq T x y U, ty, pos, af, g⟩, fl, []⟩ :: l) k st Γ :=
  ro h (RO_str hx hy fun w => by
    simp only [binOp, Op.stringOp, ByteArray.toList_mk, Sem.run_pure]
    have e : (a == b) = decide (a = b) := by by_cases h : a = b <;> simp [h]
    rw [e]) hg hd
theorem slt (h : JR c ops l k (stput d (.bool (Op.bytesLess a b)) st) Γ) (hx : ev st x = some (vs a) := by rfl) (hy : ev st y = some (vs b) := by rfl) (hg : gOk ops st ⟨d, .binOp .lss T x y U, ty, pos, af, g⟩ = some true := by rfl) (hd : dOk d c.n = true := by rfl) : JR c ops (⟨⟨d, .binOp .lss T x y U, ty, pos, af, g⟩, fl, []⟩ :: l) k st Γ :=
  ro h (RO_str hx hy fun w => by simp only [binOp, Op.stringOp, ByteArray.toList_mk, Sem.run_pure]) hg hd
/-- The length, of a list of bytes. -/
theorem lnb [TStr c.P T] (h : JR c ops l k (stput d (.int .i64 a.length) st) Γ) (hv : ev st x = some (vs a) := by rfl) (hg : gOk ops st ⟨d, .call ⟨.builtin .len, #[x], #[T]⟩, ty, pos, af, g⟩ = some true := by rfl) (hd : dOk d c.n = true := by rfl) : JR c ops (⟨⟨d, .call ⟨.builtin .len, #[x], #[T]⟩, ty, pos, af, g⟩, fl, []⟩ :: l) k st Γ := by
  refine ls ?_ hv hg hd
  rw [bs_size]; exact h
/-- A byte: at i from 0 on, below the length. -/
theorem ixb [ht : TStr c.P T] {i : IntKind} {n : Int} (h : JR c ops l k (stput d (.int .u8 (a.getD n.toNat 0).toNat) st) Γ) (hx : ev st x = some (vs a) := by rfl) (hy : ev st y = some (.int i n) := by rfl) (hb : 0 ≤ n ∧ n < a.length := by omega)
    (hg : gOk ops st ⟨d, .index T x y, ty, pos, af, g⟩ = some true := by rfl) (hd : dOk d c.n = true := by rfl) : JR c ops (⟨⟨d, .index T x y, ty, pos, af, g⟩, fl, []⟩ :: l) k st Γ :=
  ro h (fun ac w ha _ => by
    have hlt : n.toNat < a.length := by omega
    have := run_index_string (P := c.P) w T (bs a) i n ht.h
    rw [dif_pos ⟨hb.1, by rw [bs_size]; exact hb.2⟩] at this
    simp only [execOp, ev_eval ha hx, ev_eval ha hy, Sem.run_bind, this, Result.andThen_ok]
    have e : (bs a)[n.toNat]'(by rw [bs_size]; exact hlt) = a.getD n.toNat 0 := by
      rw [List.getD_eq_getElem?_getD, List.getElem?_eq_getElem hlt]; rfl
    rw [e]; rfl) hg hd

theorem run_sliceB {P : Program} {j : IntKind} {i : Int} {y : Nat} {code : BoundsCode} {w : World} (h : 0 ≤ i ∧ i ≤ y) : (Instr.sliceBound (.int j i) y code).run P w = .ok i.toNat w := by
  simp [Instr.sliceBound, asIntOf, h]
/-- s[i:j], s[i:], s[:j]. -/
theorem slb [ht : TStr c.P T] {lo hi : Operand} {i j : IntKind} {m n : Int} (h : JR c ops l k (stput d (vs ((a.take n.toNat).drop m.toNat)) st) Γ) (hx : ev st x = some (vs a) := by rfl) (hl : ev st lo = some (.int i m) := by rfl) (hh : ev st hi = some (.int j n) := by rfl) (hb : 0 ≤ m ∧ m ≤ n ∧ n ≤ a.length := by omega)
    (hg : gOk ops st ⟨d, .slice T x (some lo) (some hi) none, ty, pos, af, g⟩ = some true := by rfl) (hd : dOk d c.n = true := by rfl) : JR c ops (⟨⟨d, .slice T x (some lo) (some hi) none, ty, pos, af, g⟩, fl, []⟩ :: l) k st Γ :=
  ro h (fun ac w ha _ => by
    simp only [execOp, ev_eval ha hx, ev_eval ha hl, ev_eval ha hh, Option.map_some, Option.map_none, Instr.sliceAt, Instr.slice, Sem.run_bind, run_underlying ht.h, Result.andThen_ok, Instr.sliceBounds, bs_size]
    simp only [Sem.run_pure, Option.isSome, Bool.false_eq_true, if_false]
    simp [run_sliceB (P := c.P) (w := w) (j := j) (code := .sliceAlen) (y := a.length) ⟨by omega, hb.2.2⟩, run_sliceB (P := c.P) (w := w) (j := i) (code := .sliceB) (y := n.toNat) (i := m) ⟨hb.1, by omega⟩, bs_extract]) hg hd
theorem slbl [ht : TStr c.P T] {lo : Operand} {i : IntKind} {m : Int} (h : JR c ops l k (stput d (vs (a.drop m.toNat)) st) Γ) (hx : ev st x = some (vs a) := by rfl) (hl : ev st lo = some (.int i m) := by rfl) (hb : 0 ≤ m ∧ m ≤ a.length := by omega)
    (hg : gOk ops st ⟨d, .slice T x (some lo) none none, ty, pos, af, g⟩ = some true := by rfl) (hd : dOk d c.n = true := by rfl) : JR c ops (⟨⟨d, .slice T x (some lo) none none, ty, pos, af, g⟩, fl, []⟩ :: l) k st Γ :=
  ro h (fun ac w ha _ => by
    simp only [execOp, ev_eval ha hx, ev_eval ha hl, Option.map_some, Option.map_none, Instr.sliceAt, Instr.slice, Sem.run_bind, run_underlying ht.h, Result.andThen_ok, Instr.sliceBounds, bs_size]
    simp [run_sliceB (P := c.P) (w := w) (j := i) (code := .sliceB) (y := a.length) (i := m) ⟨hb.1, by omega⟩, bs_extract]) hg hd
theorem slbh [ht : TStr c.P T] {hi : Operand} {j : IntKind} {n : Int} (h : JR c ops l k (stput d (vs (a.take n.toNat)) st) Γ) (hx : ev st x = some (vs a) := by rfl) (hh : ev st hi = some (.int j n) := by rfl) (hb : 0 ≤ n ∧ n ≤ a.length := by omega)
    (hg : gOk ops st ⟨d, .slice T x none (some hi) none, ty, pos, af, g⟩ = some true := by rfl) (hd : dOk d c.n = true := by rfl) : JR c ops (⟨⟨d, .slice T x none (some hi) none, ty, pos, af, g⟩, fl, []⟩ :: l) k st Γ :=
  ro h (fun ac w ha _ => by
    simp only [execOp, ev_eval ha hx, ev_eval ha hh, Option.map_some, Option.map_none, Instr.sliceAt, Instr.slice, Sem.run_bind, run_underlying ht.h, Result.andThen_ok, Instr.sliceBounds, bs_size]
    simp [run_sliceB (P := c.P) (w := w) (j := j) (code := .sliceAlen) (y := a.length) (i := n) ⟨hb.1, by omega⟩, bs_extract]) hg hd

/-! ### structs of numbers, bools and strings, held against each other -/
def eqCell : Value → Value → Bool
  | .int _ a, .int _ b => a == b
  | .bool a, .bool b => a == b
  | .string a, .string b => a.data.toList == b.data.toList
  | _, _ => false
def eqCells : List Value → List Value → Bool
  | x :: xs, y :: ys => eqCell x y && eqCells xs ys
  | _, _ => true
def kindV (P : Program) (T : TypeId) (x y : Value) : Bool := match P.underlying T, x, y with
  | some (.int _), .int k _, .int k' _ => k == k'
  | some .bool, .bool _, .bool _ => true
  | some .string, .string _, .string _ => true
  | _, _, _ => false
end
def kindsFit (P : Program) : List Field → List Value → List Value → Bool
  | f :: fs, x :: xs, y :: ys => kindV P f.type x y && kindsFit P fs xs ys
  | [], _, _ => true
  | _, _, _ => false
section
variable {c : Ctx} {k : List Item} {st : St} {Γ : List Assn} {d : Option Tmp} {ty : TypeId} {pos : String} {af : Array Edge} {g : Option (Nat × Bool)} {ops : Array Oper} {rs : List Oper} {l : List Stp} {fl : Bool}
variable {x y : Operand} {T U : TypeId}
theorem run_eqFlat {P : Program} {n : Nat} (w : World) : ∀ (fs : List Field) (i : Nat) (xs ys : List Value), flatFields P i fs = true → kindsFit P fs (xs.drop i) (ys.drop i) = true → fs.length = xs.length - i → i ≤ xs.length → xs.length = ys.length →
    (Op.eqFields (n + 1) ⟨xs⟩ ⟨ys⟩ fs).run P w = .ok (eqCells (xs.drop i) (ys.drop i)) w
  | [], i, xs, ys, _, _, hl, hi, hxy => by
    have : xs.drop i = [] := List.drop_eq_nil_of_le (by simp at hl; omega)
    simp [Op.eqFields, this, eqCells]
  | f :: fs, i, xs, ys, hf, hk, hl, hi, hxy => by
    simp only [flatFields, Bool.and_eq_true, bne_iff_ne, beq_iff_eq] at hf
    obtain ⟨⟨⟨h1, h2⟩, h3⟩, h4⟩ := hf
    have hx : i < xs.length := by simp at hl; omega
    have hy : i < ys.length := by omega
    rw [List.drop_eq_getElem_cons hx, List.drop_eq_getElem_cons hy] at hk ⊢
    simp only [kindsFit, Bool.and_eq_true] at hk
    obtain ⟨h5, h6⟩ := hk
    have ha : aggOf P f.type = some false := by
      unfold scalarB at h3
      unfold aggOf
      split at h3 <;> simp_all
    have p1 : ∀ (zs : List Value) (hz : i < zs.length) (w : World), (part f.type ⟨zs⟩ f.offset).run P w = .ok zs[i] w := fun zs hz w => by
      simp [part, run_isAgg ha, h2, hz]
    have he : ∀ w, (Op.equalIn (n + 1) f.type xs[i] ys[i]).run P w = .ok (eqCell xs[i] ys[i]) w := fun w => by
      unfold kindV at h5
      split at h5
      · rename_i k a k' b hu hxi hyi
        simp at h5; subst h5
        rw [hxi, hyi, run_equalIn_int _ _ _ _ _ _ _ hu]; rfl
      · rename_i hu hxi hyi
        rw [hxi, hyi, run_equalIn_bool' _ _ _ _ _ hu]; rfl
      · rename_i hu hxi hyi
        rw [hxi, hyi, run_equalIn_string _ _ _ _ _ hu, ByteArray.toList_eq, ByteArray.toList_eq]; rfl
      · cases h5
    have hlen : fs.length = xs.length - (i + 1) := by simp at hl; omega
    have ih := run_eqFlat (P := P) (n := n) w fs (i + 1) xs ys h4 h6 hlen (by omega) hxy
    simp only [Op.eqFields, h1, ne_eq, not_false_eq_true, if_true, Sem.run_bind, p1 xs hx, p1 ys hy, Result.andThen_ok, he]
    cases hb : eqCell xs[i] ys[i] with
    | false => simp [eqCells, hb]
    | true => simp [eqCells, hb]; exact ih
theorem run_eqStruct {P : Program} [hT : TFlat P T] {xs ys : List Value} (hk : kindsFit P (P.fieldsOf T).toList xs ys = true) (hx : xs.length = (P.fieldsOf T).toList.length) (hy : ys.length = (P.fieldsOf T).toList.length) (w : World) :
    (Op.equalIn 10000 T (.agg ⟨xs⟩) (.agg ⟨ys⟩)).run P w = .ok (eqCells xs ys) w := by
  rw [run_equalIn_struct w 9999 T _ _ hT.u hT.s]
  have := run_eqFlat (P := P) (n := 9998) w (P.fieldsOf T).toList 0 xs ys hT.f (by simpa using hk) (by omega) (by omega) (by omega)
  simpa using this
theorem kinds_of {P : Program} : ∀ (fs : List Field) (ks : List FK) (xs ys : List Value), fs.map (fun f => fkOf P f.type) = ks.map some → fitK ks xs ys = true → kindsFit P fs xs ys = true
  | [], _, _, _, _, _ => rfl
  | f :: fs, [], _, _, h, _ => by simp at h
  | f :: fs, q :: ks, xs, ys, h, hk => by
    simp only [List.map_cons, List.cons.injEq] at h
    obtain ⟨h1, h2⟩ := h
    cases xs with
    | nil => cases q <;> simp [fitK] at hk
    | cons x xs =>
      cases ys with
      | nil => cases q <;> cases x <;> simp [fitK] at hk
      | cons y ys =>
        have hr : kindV P f.type x y = true ∧ fitK ks xs ys = true := by
          unfold fkOf at h1
          unfold kindV
          cases q <;> cases x <;> first
            | (exfalso; simp [fitK] at hk; done)
            | (cases y <;> first
                | (exfalso; simp [fitK] at hk; done)
                | (simp only [fitK] at hk; split at h1 <;> simp_all))
        simp only [kindsFit, Bool.and_eq_true]
        exact ⟨hr.1, kinds_of fs ks xs ys h2 hr.2⟩
theorem aeq {xs ys : List Value} {ks : List FK} [hT : TFlatK c.P T ks] (h : JR c ops l k (stput d (.bool (eqCells xs ys)) st) Γ) (hx : ev st x = some (.agg ⟨xs⟩) := by rfl) (hy : ev st y = some (.agg ⟨ys⟩) := by rfl) (hk : fitK ks xs ys = true := by rfl) (h1 : xs.length = ks.length := by rfl) (h2 : ys.length = ks.length := by rfl)
    (hg : gOk ops st ⟨d, .binOp .eql T x y U, ty, pos, af, g⟩ = some true := by rfl) (hd : dOk d c.n = true := by rfl) : JR c ops (⟨⟨d, .binOp .eql T x y U, ty, pos, af, g⟩, fl, []⟩ :: l) k st Γ :=
  ro h (fun ac w ha _ => by
    simp only [execOp, ev_eval ha hx, ev_eval ha hy, Sem.run_bind, run_eqGuard_agg w .eql T x y _ _ hT.g, Result.andThen_ok, run_eql_struct, run_eqStruct (P := c.P) (xs := xs) (ys := ys) (kinds_of _ _ _ _ hT.k hk) (by rw [h1, hT.len]) (by rw [h2, hT.len])]
    rfl) hg hd
theorem ane {xs ys : List Value} {ks : List FK} [hT : TFlatK c.P T ks] (h : JR c ops l k (stput d (.bool (!eqCells xs ys)) st) Γ) (hx : ev st x = some (.agg ⟨xs⟩) := by rfl) (hy : ev st y = some (.agg ⟨ys⟩) := by rfl) (hk : fitK ks xs ys = true := by rfl) (h1 : xs.length = ks.length := by rfl) (h2 : ys.length = ks.length := by rfl)
    (hg : gOk ops st ⟨d, .binOp .neq T x y U, ty, pos, af, g⟩ = some true := by rfl) (hd : dOk d c.n = true := by rfl) : JR c ops (⟨⟨d, .binOp .neq T x y U, ty, pos, af, g⟩, fl, []⟩ :: l) k st Γ :=
  ro h (fun ac w ha _ => by
    simp only [execOp, ev_eval ha hx, ev_eval ha hy, Sem.run_bind, run_eqGuard_agg w .neq T x y _ _ hT.g, Result.andThen_ok, run_neq_struct, run_eqStruct (P := c.P) (xs := xs) (ys := ys) (kinds_of _ _ _ _ hT.k hk) (by rw [h1, hT.len]) (by rw [h2, hT.len])]
    rfl) hg hd
end
end Go.Proofs.YtaeefjcbmkiiaaaGreatDoor.Sl
/- Slices: what a list of Lean's is to a slice of Go's: one that the walk owns, with its room; one that it reads. -/
namespace Go.Proofs.YtaeefjcbmkiiaaaGreatDoor.Sl
open Go Go.RowKit

/-- How a value of a type lies in cells. -/
structure EncT (α : Type) where
  enc : α → List Value
  dec : List Value → α
  sz : Nat
  dflt : α
  len : ∀ x, (enc x).length = sz
  ok : ∀ x, (enc x).all one = true
  pos : 0 < sz
def flat {α : Type} (e : EncT α) (l : List α) : List Value := l.flatMap e.enc
section
variable {α : Type} {e : EncT α}
theorem flat_nil : flat e [] = [] := rfl
theorem flat_cons (x : α) (l : List α) : flat e (x :: l) = e.enc x ++ flat e l := rfl
theorem flat_append (a b : List α) : flat e (a ++ b) = flat e a ++ flat e b := by simp [flat]
theorem flat_length (l : List α) : (flat e l).length = l.length * e.sz := by
  induction l with
  | nil => simp [flat]
  | cons x l ih => rw [flat_cons, List.length_append, e.len, ih, List.length_cons, Nat.succ_mul, Nat.add_comm]
theorem flat_get (l : List α) (i j : Nat) (hi : i < l.length) (hj : j < e.sz) : (flat e l)[i * e.sz + j]? = (e.enc (l.getD i e.dflt))[j]? := by
  induction l generalizing i with
  | nil => simp at hi
  | cons x l ih =>
    rw [flat_cons]
    cases i with
    | zero => rw [List.getElem?_append_left (by rw [e.len]; omega)]; simp
    | succ i =>
      rw [List.getElem?_append_right (by rw [e.len, Nat.succ_mul]; omega), e.len, show (i + 1) * e.sz + j - e.sz = i * e.sz + j by rw [Nat.succ_mul]; omega, ih i (by simpa using hi)]
      simp
theorem flat_take (l : List α) (n : Nat) : flat e (l.take n) = (flat e l).take (n * e.sz) := by
  induction l generalizing n with
  | nil => simp [flat]
  | cons x l ih =>
    cases n with
    | zero => simp [flat]
    | succ n =>
      rw [List.take_succ_cons, flat_cons, flat_cons, ih, Nat.succ_mul, List.take_append, e.len, List.take_of_length_le (l := e.enc x) (by rw [e.len]; omega), Nat.add_sub_cancel]
theorem flat_drop (l : List α) (n : Nat) : flat e (l.drop n) = (flat e l).drop (n * e.sz) := by
  induction l generalizing n with
  | nil => simp [flat]
  | cons x l ih =>
    cases n with
    | zero => simp
    | succ n =>
      have hd : (e.enc x).drop (n * e.sz + e.sz) = [] := List.drop_eq_nil_of_le (by rw [e.len]; omega)
      rw [List.drop_succ_cons, flat_cons, ih, Nat.succ_mul, List.drop_append, e.len, hd, Nat.add_sub_cancel, List.nil_append]
theorem flat_ok (l : List α) : ∀ u ∈ flat e l, u.oneCell' = true := by
  intro u hu
  obtain ⟨x, _, hx⟩ := List.mem_flatMap.1 hu
  have := List.all_eq_true.1 (e.ok x) u hx
  cases u <;> first | rfl | (simp [one] at this)
theorem flat_set (l : List α) (i : Nat) (hi : i < l.length) (x : α) : flat e (l.set i x) = (flat e l).take (i * e.sz) ++ e.enc x ++ (flat e l).drop ((i + 1) * e.sz) := by
  rw [← flat_take, ← flat_drop, List.set_eq_take_append_cons_drop, if_pos hi, flat_append, flat_cons, List.append_assoc]
end

/-- A slice that is read: in a heap. -/
def RdH {α : Type} (hp : Hp) (e : EncT α) (v : Value) (l : List α) : Prop :=
  (v = .slice none 0 0 ∧ l = []) ∨ ∃ b off cap cur E fz, v = .slice (some ⟨b, off, none⟩) l.length cap ∧ l.length ≤ cap ∧ hp b = some (.cells cur E fz) ∧ ∀ j, j < l.length * e.sz → cur.toList[off + j]? = (flat e l)[j]?
def RdW {α : Type} (w : World) (e : EncT α) (v : Value) (l : List α) : Prop := RdH (fun b => w.heap[b]?) e v l
/-- .. of what was there when the law began. -/
def rsl {α : Type} (e : EncT α) (v : Value) (l : List α) : Assn := fun r _ => RdH r e v l
/-- A slice that is owned, with its room. -/
def sl {α : Type} (E : TypeId) (e : EncT α) (v : Value) (l : List α) : Assn := fun _ h =>
  (v = .slice none 0 0 ∧ l = []) ∨ ∃ g cap cur, v = .slice (some ⟨g, 0, none⟩) l.length cap ∧ h g = some (.cells cur E (0, 0)) ∧ l.length ≤ cap ∧ cap ≤ maxLen ∧ cur.size = cap * e.sz ∧ cur.toList.take (l.length * e.sz) = flat e l

section
variable {α : Type} {e : EncT α} {v : Value} {l : List α}
theorem RdH.mono {h h' : Hp} (hl : Hp.le h h') (hr : RdH h e v l) : RdH h' e v l := by
  rcases hr with h1 | ⟨b, off, cap, cur, E, fz, h1, h2, h3, h4⟩
  · exact .inl h1
  · exact .inr ⟨b, off, cap, cur, E, fz, h1, h2, hl _ _ h3, h4⟩
theorem RdW.len {w : World} (h : RdW w e v l) : ∃ p cap, v = .slice p l.length cap := by
  rcases h with ⟨h1, h2⟩ | ⟨b, off, cap, cur, E, fz, h1, h2, h3, h4⟩
  · exact ⟨none, 0, by rw [h1, h2]; rfl⟩
  · exact ⟨_, cap, h1⟩
theorem Sat.below_le {B w : World} {F : Assn} {Γ : List Assn} (h : Sat B F Γ w) : Hp.le (baseHp B) fun b => w.heap[b]? := fun b o e => by
  unfold baseHp at e
  split at e
  · rename_i hlt; show w.heap[b]? = some o; rw [h.1.block b hlt]; exact e
  · cases e
end
class RdG (Γ : List Assn) (v : Value) {α : outParam Type} (e : outParam (EncT α)) (l : outParam (List α)) : Prop where
  h : ∀ B F w, Sat B F Γ w → RdW w e v l
instance RdG.sl {α : Type} {e : EncT α} {v : Value} {l : List α} {E : TypeId} {Γ : List Assn} : RdG (sl E e v l :: Γ) v e l := ⟨fun B F w hS => by
  obtain ⟨h1, hm, hA⟩ := hS.peek .here
  rcases hA with hA | ⟨g, cap, cur, e1, e2, e3, e4, e5, e6⟩
  · exact .inl hA
  · refine .inr ⟨g, 0, cap, cur, E, (0, 0), e1, e3, (hm _ _ e2).2, fun j hj => ?_⟩
    rw [← e6, Nat.zero_add, List.getElem?_take, if_pos hj]⟩
instance RdG.rsl {α : Type} {e : EncT α} {v : Value} {l : List α} {Γ : List Assn} : RdG (rsl e v l :: Γ) v e l := ⟨fun B F w hS => by
  obtain ⟨h1, hm, hA⟩ := hS.peek .here
  exact RdH.mono hS.below_le hA⟩
instance (priority := low) RdG.there {α : Type} {e : EncT α} {v : Value} {l : List α} {A : Assn} {Γ : List Assn} [h : RdG Γ v e l] : RdG (A :: Γ) v e l := ⟨fun B F w hS => h.h B F w hS.tail⟩
/-- .. owned, and what it stands beside. -/
class SelS (Γ : List Assn) (v : Value) (E : outParam TypeId) {α : outParam Type} (e : outParam (EncT α)) (l : outParam (List α)) (Γ' : outParam (List Assn)) : Prop where
  h : Sel Γ (Sl.sl E e v l) Γ'
instance SelS.here {α : Type} {e : EncT α} {v : Value} {l : List α} {E : TypeId} {Γ : List Assn} : SelS (sl E e v l :: Γ) v E e l Γ := ⟨.here⟩
instance (priority := low) SelS.there {α : Type} {e : EncT α} {v : Value} {l : List α} {E : TypeId} {A : Assn} {Γ Γ' : List Assn} [h : SelS Γ v E e l Γ'] : SelS (A :: Γ) v E e l (A :: Γ') := ⟨.there h.h⟩
/-- How a type's values are told. -/
class TEnc (E : TypeId) {α : outParam Type} (e : outParam (EncT α)) : Prop where
  h : True

/-- The block of a slice; the place of its first cell; the place of a cell of an element. -/
def vb : Value → Nat | .slice (some a) _ _ => a.block | _ => 0
def vo : Value → Nat | .slice (some a) _ _ => a.off | _ => 0
def el (o i sz j : Nat) : Nat := o + (i * sz + j)
/-- A piece of a slice. -/
def vw (v : Value) (a b sz : Nat) : Value := match v with
  | .slice p _ cap => .slice (if cap = a then p else p.map (·.add (a * sz))) (b - a) (cap - a)
  | _ => v

theorem RdW.at {α : Type} {e : EncT α} {v : Value} {l : List α} {w : World} (h : RdW w e v l) {i : Nat} (hi : i < l.length) : ∃ cap E fz cur, v = .slice (some ⟨vb v, vo v, none⟩) l.length cap ∧ w.heap[vb v]? = some (.cells cur E fz) ∧ ∀ j, j < e.sz → cur.toList[el (vo v) i e.sz j]? = (e.enc (l.getD i e.dflt))[j]? := by
  rcases h with ⟨_, h2⟩ | ⟨b, off, cap, cur, E, fz, h1, h2, h3, h4⟩
  · subst h2; simp at hi
  · subst h1
    refine ⟨cap, E, fz, cur, rfl, h3, fun j hj => ?_⟩
    have : i * e.sz + j < l.length * e.sz := by
      have : (i + 1) * e.sz ≤ l.length * e.sz := Nat.mul_le_mul_right _ hi
      rw [Nat.succ_mul] at this; omega
    have h5 := h4 _ this
    rw [flat_get l i j hi hj] at h5
    exact h5
theorem RdW.view {α : Type} {e : EncT α} {v : Value} {l : List α} {w : World} (h : RdW w e v l) {a b : Nat} (hab : a ≤ b) (hb : b ≤ l.length) : RdW w e (vw v a b e.sz) ((l.take b).drop a) := by
  have hlen : ((l.take b).drop a).length = b - a := by simp; omega
  rcases h with ⟨rfl, rfl⟩ | ⟨g, off, cap, cur, E, fz, rfl, h2, h3, h4⟩
  · left
    simp at hb
    obtain rfl : b = 0 := by omega
    obtain rfl : a = 0 := by omega
    simp [vw]
  · right
    by_cases hc : cap = a
    · refine ⟨g, off, cap - a, cur, E, fz, by simp [vw, hc, hlen], by rw [hlen]; omega, h3, fun j hj => ?_⟩
      rw [hlen] at hj
      have : b - a = 0 := by omega
      rw [this] at hj; simp at hj
    · refine ⟨g, off + a * e.sz, cap - a, cur, E, fz, by simp [vw, hc, hlen, add_none], by rw [hlen]; omega, h3, fun j hj => ?_⟩
      rw [hlen] at hj
      rw [flat_drop, flat_take, List.getElem?_drop, List.getElem?_take]
      have h5 : a * e.sz + j < b * e.sz := by
        have : (b - a) * e.sz = b * e.sz - a * e.sz := Nat.sub_mul ..
        omega
      rw [if_pos h5, ← h4 _ (Nat.lt_of_lt_of_le h5 (Nat.mul_le_mul_right _ hb)), Nat.add_assoc]

section
variable {c : Ctx} {k : List Item} {st : St} {Γ : List Assn} {d : Option Tmp} {ty : TypeId} {pos : String} {af : Array Edge} {g : Option (Nat × Bool)} {ops : Array Oper} {rs : List Oper} {l : List Stp} {fl : Bool}
variable {x y : Operand} {T U : TypeId} {α : Type} {e : EncT α} {v : Value} {L : List α}

/-- The length of a slice that is read. -/
theorem lls {E : TypeId} [ht : TSlice c.P T E] (hv : ev st x = some v) [hr : RdG Γ v e L] (h : JR c ops l k (stput d (.int .i64 L.length) st) Γ) (hg : gOk ops st ⟨d, .call ⟨.builtin .len, #[x], #[T]⟩, ty, pos, af, g⟩ = some true := by rfl) (hd : dOk d c.n = true := by rfl) : JR c ops (⟨⟨d, .call ⟨.builtin .len, #[x], #[T]⟩, ty, pos, af, g⟩, fl, []⟩ :: l) k st Γ :=
  ro h (fun a w ha hS => by
    obtain ⟨p, cap, rfl⟩ := (hr.h _ _ _ hS).len
    exact RO_len_slice (c := c) (Γ := Γ) hv a w ha hS) hg hd
/-- &s[i]. -/
theorem ixa {E bb : Nat} {i : IntKind} {n : Int} [ht : TSlice c.P T E] (hv : ev st x = some v) (hy : ev st y = some (.int i n)) [hr : RdG Γ v e L] [hz : ESize c.P E e.sz bb] (h : JR c ops l k (stput d (.pointer (some ⟨vb v, el (vo v) n.toNat e.sz 0, none⟩)) st) Γ) (hb : 0 ≤ n ∧ n < L.length := by omega)
    (hg : gOk ops st ⟨d, .indexAddr T x y, ty, pos, af, g⟩ = some true := by rfl) (hd : dOk d c.n = true := by rfl) : JR c ops (⟨⟨d, .indexAddr T x y, ty, pos, af, g⟩, fl, []⟩ :: l) k st Γ :=
  ro h (fun a w ha hS => by
    obtain ⟨cap, E', fz, cur, h1, h2, h3⟩ := (hr.h _ _ _ hS).at (i := n.toNat) (by omega)
    have hev := ev_eval ha hv
    rw [h1] at hev
    simp only [execOp, hev, ev_eval ha hy, Instr.indexAt, asIntOf, Sem.run_bind, Sem.run_pure, Result.andThen_ok, run_underlying ht.h]
    simp [hb, run_sizeOf (szOf_of hz.h), add_none, el]) hg hd
/-- &s[i].f. -/
theorem fe {b o i sz j off fi : Nat} [hf : FOff c.P T fi off] (h : JR c ops l k (stput d (.pointer (some ⟨b, el o i sz (j + off), none⟩)) st) Γ) (hv : ev st x = some (.pointer (some ⟨b, el o i sz j, none⟩)) := by rfl) (hg : gOk ops st ⟨d, .fieldAddr T x fi, ty, pos, af, g⟩ = some true := by rfl) (hd : dOk d c.n = true := by rfl) : JR c ops (⟨⟨d, .fieldAddr T x fi, ty, pos, af, g⟩, fl, []⟩ :: l) k st Γ :=
  ro h (by
    have := RO_fieldAddr (c := c) (Γ := Γ) (d := d) (ty := ty) (pos := pos) (af := af) (g := g) (T := T) (i := fi) hv
    rwa [show el o i sz j + off = el o i sz (j + off) by unfold el; omega] at this) hg hd
/-- s[i].f, s[i], read. -/
theorem lde {i j : Nat} {u : Value} [ht : TSc c.P T] (hv : ev st x = some (.pointer (some ⟨vb v, el (vo v) i e.sz j, none⟩))) [hr : RdG Γ v e L] (h : JR c ops l k (stput d u st) Γ) (hb : i < L.length := by omega) (hl : (e.enc (L.getD i e.dflt))[j]? = some u := by rfl)
    (hg : gOk ops st ⟨d, .load T x, ty, pos, af, g⟩ = some true := by rfl) (hd : dOk d c.n = true := by rfl) : JR c ops (⟨⟨d, .load T x, ty, pos, af, g⟩, fl, []⟩ :: l) k st Γ :=
  ro h (fun a w ha hS => by
    obtain ⟨cap, E', fz, cur, h1, h2, h3⟩ := (hr.h _ _ _ hS).at hb
    have hj : j < e.sz := by
      rw [← e.len (L.getD i e.dflt)]
      rcases Nat.lt_or_ge j (e.enc (L.getD i e.dflt)).length with h | h
      · exact h
      · rw [List.getElem?_eq_none h] at hl; cases hl
    simp [execOp, ev_eval ha hv, Instr.loadAt, Instr.sureAddr, run_loadVar_sc ht.a (cell_of (l := cur.toList) h2 (by rw [h3 j hj]; exact hl))]) hg hd
theorem lae {i j n : Nat} {us : List Value} [ht : TAgg c.P T n] (hv : ev st x = some (.pointer (some ⟨vb v, el (vo v) i e.sz j, none⟩))) [hr : RdG Γ v e L] (h : JR c ops l k (stput d (.agg ⟨us⟩) st) Γ) (hb : i < L.length := by omega) (hl : GetN (e.enc (L.getD i e.dflt)) j n us := by (repeat constructor))
    (hg : gOk ops st ⟨d, .load T x, ty, pos, af, g⟩ = some true := by rfl) (hd : dOk d c.n = true := by rfl) : JR c ops (⟨⟨d, .load T x, ty, pos, af, g⟩, fl, []⟩ :: l) k st Γ :=
  ro h (fun a w ha hS => by
    obtain ⟨cap, E', fz, cur, h1, h2, h3⟩ := (hr.h _ _ _ hS).at hb
    obtain ⟨h4, h5⟩ := hl.get
    have := run_loadVar_agg (P := c.P) ht.a ht.s h4 (w := w) (b := vb v) (o := el (vo v) i e.sz j) (fun q hq => by
      have hq' : q < us.length := by omega
      have h6 := h5 q hq
      rw [List.getElem?_eq_getElem hq'] at h6 ⊢
      have hjq : j + q < e.sz := by
        rw [← e.len (L.getD i e.dflt)]
        rcases Nat.lt_or_ge (j + q) (e.enc (L.getD i e.dflt)).length with h | h
        · exact h
        · rw [List.getElem?_eq_none h] at h6; cases h6
      refine cell_of (l := cur.toList) h2 ?_
      rw [show el (vo v) i e.sz j + q = el (vo v) i e.sz (j + q) by unfold el; omega, h3 _ hjq, h6])
    simp [execOp, ev_eval ha hv, Instr.loadAt, Instr.sureAddr, this]) hg hd

/-! ### stores -/
theorem sl_open {B w : World} {F : Assn} {E : TypeId} (hS : Sat B F (sl E e v L :: Γ) w) {i : Nat} (hi : i < L.length) : ∃ cap cur, v = .slice (some ⟨vb v, 0, none⟩) L.length cap ∧ vo v = 0 ∧ Sat B F (blk (vb v) (.cells cur E (0, 0)) :: Γ) w ∧ L.length ≤ cap ∧ cap ≤ maxLen ∧ cur.size = cap * e.sz ∧ cur.toList.take (L.length * e.sz) = flat e L := by
  obtain ⟨hb, m, hm, h1, h2, d, l1, l2, hF, h3, h4, d', l3, l4, hA, hs⟩ := hS
  rcases hA with ⟨_, rfl⟩ | ⟨g, cap, cur, rfl, e2, e3, e4, e5, e6⟩
  · simp at hi
  · exact ⟨cap, cur, rfl, rfl, ⟨hb, m, hm, h1, h2, d, l1, l2, hF, h3, h4, d', l3, l4, e2, hs⟩, e3, e4, e5, e6⟩
theorem sl_close {B w : World} {F : Assn} {E b cap : Nat} {cur : Array Value} {L : List α} (hS : Sat B F (blk b (.cells cur E (0, 0)) :: Γ) w) (h1 : L.length ≤ cap) (h2 : cap ≤ maxLen) (h3 : cur.size = cap * e.sz) (h4 : cur.toList.take (L.length * e.sz) = flat e L) :
    Sat B F (sl E e (.slice (some ⟨b, 0, none⟩) L.length cap) L :: Γ) w := by
  obtain ⟨hb, m, hm, g1, g2, d, l1, l2, hF, g3, g4, d', l3, l4, hA, hs⟩ := hS
  exact ⟨hb, m, hm, g1, g2, d, l1, l2, hF, g3, g4, d', l3, l4, .inr ⟨b, cap, cur, rfl, hA, h1, h2, h3, h4⟩, hs⟩
/-- s[i].f = u, s[i] = u. -/
theorem sre {E n bb i j : Nat} {us us' : List Value} {Γ' : List Assn} {u : Value} (hx : ev st x = some (.pointer (some ⟨vb v, el (vo v) i e.sz j, none⟩))) [hs : SelS Γ v E e L Γ'] [hz : ESize c.P T n bb] (h : JS c ops rs l k (stput d undef st) (sl E e v (L.set i (e.dec us')) :: Γ')) (hy : ev st y = some u := by rfl) (hb : i < L.length := by omega)
    (hvs : u.cells = ⟨us⟩ := by rfl) (hn : us.length = n := by rfl) (hone : us.all one = true := by rfl) (hp : PutN (e.enc (L.getD i e.dflt)) j us us' := by (repeat constructor)) (he : e.enc (e.dec us') = us' := by rfl) (hg : gOk ops st ⟨d, .store T x y, ty, pos, af, g⟩ = some true := by rfl) (hd : dOk d c.n = true := by rfl) : JR c ops (⟨⟨d, .store T x y, ty, pos, af, g⟩, false, rs⟩ :: l) k st Γ := by
  intro b' cs a w h1 h2 h3 h4
  unfold CR
  simp only [gOk_wanted hg h3, if_true, Bool.false_eq_true, if_false]
  obtain ⟨cap, cur, e1, e1', hS, e3, e4, e5, e6⟩ := sl_open (h4.perm hs.h.perm) hb
  obtain ⟨hp1, hp2, hp3⟩ := hp.get
  rw [e.len] at hp1 hp2
  have hjn : i * e.sz + e.sz ≤ L.length * e.sz := by
    have : (i + 1) * e.sz ≤ L.length * e.sz := Nat.mul_le_mul_right _ hb
    rwa [Nat.succ_mul] at this
  have hcap : L.length * e.sz ≤ cap * e.sz := Nat.mul_le_mul_right _ e3
  have hcl : cur.toList.length = cap * e.sz := by simpa using e5
  have hcg : ∀ q, q < L.length * e.sz → cur.toList[q]? = (flat e L)[q]? := fun q hq => by rw [← e6, List.getElem?_take, if_pos hq]
  -- the row behind the store
  let cl2 := cur.toList.take (i * e.sz) ++ us' ++ cur.toList.drop ((i + 1) * e.sz)
  have hcl2 : cl2.length = cur.toList.length := by
    simp only [cl2, List.length_append, List.length_take, List.length_drop, hp2, hcl, Nat.succ_mul]; omega
  have hget : ∀ q, cl2[q]? = if i * e.sz + j ≤ q ∧ q < i * e.sz + j + us.length then us[q - (i * e.sz + j)]? else cur.toList[q]? := by
    intro q
    have hlt : (cur.toList.take (i * e.sz)).length = i * e.sz := by rw [List.length_take, hcl]; omega
    simp only [cl2]
    by_cases q1 : q < i * e.sz
    · rw [List.append_assoc, List.getElem?_append_left (by rw [hlt]; exact q1), List.getElem?_take, if_pos q1, if_neg (by omega)]
    · by_cases q2 : q < i * e.sz + e.sz
      · rw [List.getElem?_append_left (by rw [List.length_append, hlt, hp2]; exact q2), List.getElem?_append_right (by rw [hlt]; omega), hlt, hp3 (q - i * e.sz)]
        by_cases q3 : j ≤ q - i * e.sz ∧ q - i * e.sz < j + us.length
        · rw [if_pos q3, if_pos (by omega), show q - (i * e.sz + j) = q - i * e.sz - j by omega]
        · rw [if_neg q3, if_neg (by omega)]
          have h8 := flat_get (e := e) L i (q - i * e.sz) hb (by omega)
          rw [show i * e.sz + (q - i * e.sz) = q by omega] at h8
          rw [hcg q (by omega), h8]
      · rw [List.getElem?_append_right (by rw [List.length_append, hlt, hp2]; omega), List.length_append, hlt, hp2, List.getElem?_drop, if_neg (by omega)]
        congr 1
        rw [Nat.succ_mul]; omega
  obtain ⟨w', hr, hh, f1, f2, f3⟩ := run_storeCells (P := c.P) (b := vb v) (E := E) (o := el (vo v) i e.sz j) us 0 cur.toList cl2 w hone (hS.blk .here).2 (by rw [e1']; unfold el; omega) hcl2 (fun q => by
    rw [hget q, e1']
    have : el 0 i e.sz j + 0 = i * e.sz + j := by unfold el; omega
    rw [this])
  have : (execOp a.eval ⟨d, .store T x y, ty, pos, af, g⟩).run c.P w = .ok .skip w' := by
    simp [execOp, ev_eval h3 hx, ev_eval h3 hy, Instr.storeAt, Instr.sureAddr, storeVar, hvs, run_sizeOf (szOf_of hz.h), hn, hr]
  rw [this]
  have hlen : (L.set i (e.dec us')).length = L.length := by simp
  have hS' := sl_close (e := e) (cap := cap) (L := L.set i (e.dec us')) (hS.write hh f1 f2 f3) (by rw [hlen]; exact e3) e4 (by simp [hcl2, e5]) (by
    rw [hlen, flat_set L i hb, he, ← e6]
    show cl2.take (L.length * e.sz) = _
    simp only [cl2]
    have hA : (cur.toList.take (i * e.sz)).length = i * e.sz := by rw [List.length_take, hcl]; omega
    rw [List.take_append, List.length_append, hA, hp2, List.take_of_length_le (l := cur.toList.take (i * e.sz) ++ us') (by rw [List.length_append, hA, hp2]; omega), List.take_take, Nat.min_eq_left (by omega), List.drop_take]
    congr 2
    rw [Nat.succ_mul])
  rw [hlen, ← e1] at hS'
  exact JS_of h h1 h2 (h3.put hd _) hS'
end
end Go.Proofs.YtaeefjcbmkiiaaaGreatDoor.Sl
/- Slices made and grown: literals, append, slicing; structs built. -/
namespace Go.Proofs.YtaeefjcbmkiiaaaGreatDoor.Sl
open Go Go.RowKit

/-! ### filling -/
theorem foldl_put : ∀ (cs : List Value) (j off : Nat) (A : Array Value), off + j + cs.length ≤ A.size →
    ((cs.zipIdx j).foldl (fun (a : Array Value) (p : Value × Nat) => a.setIfInBounds (off + p.2) p.1) A).toList = A.toList.take (off + j) ++ cs ++ A.toList.drop (off + j + cs.length)
  | [], j, off, A, h => by simp
  | v :: cs, j, off, A, h => by
    simp only [List.length_cons] at h
    simp only [List.zipIdx_cons, List.foldl_cons]
    rw [foldl_put cs (j + 1) off _ (by simp; omega)]
    have hlt : off + j < A.toList.length := by simp; omega
    simp only [Array.toList_setIfInBounds]
    rw [List.drop_set, if_pos (by omega), show off + (j + 1) = off + j + 1 by omega, List.take_succ_eq_append_getElem (by simp; omega), List.take_set_of_le (Nat.le_refl _), List.getElem_set_self]
    simp only [List.append_assoc, List.cons_append, List.nil_append, List.length_cons]
    congr 3
    congr 1
    omega

/-- The parts of a literal, in their order, as the values of a type. -/
inductive Parts (st : St) {α : Type} (e : EncT α) : Nat → List (Nat × Operand) → List α → Prop
  | nil {i : Nat} : Parts st e i [] []
  | cons {i : Nat} {x : Operand} {u : Value} {cs : List Value} {r : List (Nat × Operand)} {X : List α} : ev st x = some u → u.cells = ⟨cs⟩ → e.enc (e.dec cs) = cs → Parts st e (i + 1) r X → Parts st e i ((i, x) :: r) (e.dec cs :: X)
  | cona {i : Nat} {x : Operand} {u : Value} {a : α} {r : List (Nat × Operand)} {X : List α} : ev st x = some u → u.cells = ⟨e.enc a⟩ → Parts st e (i + 1) r X → Parts st e i ((i, x) :: r) (a :: X)

theorem fill_parts {α : Type} {e : EncT α} {n : Nat} {st : St} {a : Act} (ha : Agree n st a) : ∀ (r : List (Nat × Operand)) (i : Nat) (X : List α) (A : Array Value), Parts st e i r X → A.size = (i + X.length) * e.sz →
    Instr.fill (fun i => some (i * e.sz, e.sz)) A (r.map fun p => (p.1, a.eval p.2)) = some ⟨A.toList.take (i * e.sz) ++ flat e X⟩ := by
  intro r i X A h
  induction h generalizing A with
  | nil =>
    intro hs
    simp only [List.map_nil, Instr.fill, flat_nil, List.append_nil]
    rw [List.take_of_length_le (by simp at hs ⊢; omega)]
  | @cons i x u cs r X hv hc he _ ih =>
    intro hs
    have hcs : cs.length = e.sz := by rw [← he]; exact e.len _
    simp only [List.length_cons] at hs
    have hsz : i * e.sz + e.sz ≤ A.size := by
      rw [hs]
      have : (i + 1) * e.sz ≤ (i + (X.length + 1)) * e.sz := Nat.mul_le_mul_right _ (by omega)
      rwa [Nat.succ_mul] at this
    simp only [List.map_cons, Instr.fill, ev_eval ha hv, hc]
    have hcz : (⟨cs⟩ : Array Value).size = e.sz := hcs
    simp only [hcz]
    rw [if_neg (by simp; omega)]
    have hf := foldl_put cs 0 (i * e.sz) A (by omega)
    have hz : (⟨cs⟩ : Array Value).zipIdx.foldl (fun (a : Array Value) (p : Value × Nat) => a.setIfInBounds (i * e.sz + p.2) p.1) A = ⟨A.toList.take (i * e.sz) ++ cs ++ A.toList.drop (i * e.sz + e.sz)⟩ := by
      rw [← Array.foldl_toList, ← Array.toList_inj]
      simp only [Nat.add_zero, hcs] at hf
      rw [show (⟨cs⟩ : Array Value).zipIdx.toList = cs.zipIdx from Array.toList_zipIdx ..]
      exact hf
    rw [show (fun cs (x : Value × Nat) => match x with | (c, j) => cs.setIfInBounds (i * e.sz + j) c) = fun (a : Array Value) (p : Value × Nat) => a.setIfInBounds (i * e.sz + p.2) p.1 from rfl, hz]
    have hl1 : (A.toList.take (i * e.sz)).length = i * e.sz := by simp; omega
    rw [ih _ (by simp [hcs]; rw [hs] at hsz ⊢; rw [show i + (X.length + 1) = i + 1 + X.length by omega]; have := hsz; rw [show i + (X.length + 1) = i + 1 + X.length by omega] at this; omega)]
    congr 2
    rw [flat_cons, he]
    simp only []
    rw [List.take_append, List.length_append, hl1, hcs, Nat.succ_mul, List.take_of_length_le (l := A.toList.take (i * e.sz) ++ cs) (by rw [List.length_append, hl1, hcs]; exact Nat.le_refl _), Nat.sub_self, List.take_zero, List.append_nil, List.append_assoc]
  | @cona i x u a' r X hv hc _ ih =>
    intro hs
    obtain ⟨cs, hcse⟩ : ∃ cs, e.enc a' = cs := ⟨_, rfl⟩
    have he := hcse
    rw [hcse] at hc
    have hcs : cs.length = e.sz := by rw [← he]; exact e.len _
    simp only [List.length_cons] at hs
    have hsz : i * e.sz + e.sz ≤ A.size := by
      rw [hs]
      have : (i + 1) * e.sz ≤ (i + (X.length + 1)) * e.sz := Nat.mul_le_mul_right _ (by omega)
      rwa [Nat.succ_mul] at this
    simp only [List.map_cons, Instr.fill, ev_eval ha hv, hc]
    have hcz : (⟨cs⟩ : Array Value).size = e.sz := hcs
    simp only [hcz]
    rw [if_neg (by simp; omega)]
    have hf := foldl_put cs 0 (i * e.sz) A (by omega)
    have hz : (⟨cs⟩ : Array Value).zipIdx.foldl (fun (a : Array Value) (p : Value × Nat) => a.setIfInBounds (i * e.sz + p.2) p.1) A = ⟨A.toList.take (i * e.sz) ++ cs ++ A.toList.drop (i * e.sz + e.sz)⟩ := by
      rw [← Array.foldl_toList, ← Array.toList_inj]
      simp only [Nat.add_zero, hcs] at hf
      rw [show (⟨cs⟩ : Array Value).zipIdx.toList = cs.zipIdx from Array.toList_zipIdx ..]
      exact hf
    rw [show (fun cs (x : Value × Nat) => match x with | (c, j) => cs.setIfInBounds (i * e.sz + j) c) = fun (a : Array Value) (p : Value × Nat) => a.setIfInBounds (i * e.sz + p.2) p.1 from rfl, hz]
    have hl1 : (A.toList.take (i * e.sz)).length = i * e.sz := by simp; omega
    rw [ih _ (by simp [hcs]; rw [hs] at hsz ⊢; rw [show i + (X.length + 1) = i + 1 + X.length by omega]; have := hsz; rw [show i + (X.length + 1) = i + 1 + X.length by omega] at this; omega)]
    congr 2
    rw [flat_cons, he]
    simp only []
    rw [List.take_append, List.length_append, hl1, hcs, Nat.succ_mul, List.take_of_length_le (l := A.toList.take (i * e.sz) ++ cs) (by rw [List.length_append, hl1, hcs]; exact Nat.le_refl _), Nat.sub_self, List.take_zero, List.append_nil, List.append_assoc]

section
variable {c : Ctx} {k : List Item} {st : St} {Γ : List Assn} {d : Option Tmp} {ty : TypeId} {pos : String} {af : Array Edge} {g : Option (Nat × Bool)} {ops : Array Oper} {rs : List Oper} {l : List Stp} {fl : Bool}
variable {x y : Operand} {T U : TypeId} {α : Type} {e : EncT α} {v : Value} {L X : List α}

theorem sl_new {B w : World} {F : Assn} (hS : Sat B F Γ w) {E cap : Nat} {cur : Array Value} (h1 : L.length ≤ cap) (h2 : cap ≤ maxLen) (h3 : cur.size = cap * e.sz) (h4 : cur.toList.take (L.length * e.sz) = flat e L) :
    Sat B F (sl E e (.slice (some ⟨w.heap.size, 0, none⟩) L.length cap) L :: Γ) (w.alloc (.cells cur E (0, 0))) :=
  sl_close (hS.alloc _) h1 h2 h3 h4
theorem sl_nil {B w : World} {F : Assn} (hS : Sat B F Γ w) {E : Nat} : Sat B F (sl E e (.slice none 0 0) ([] : List α) :: Γ) w :=
  hS.imp fun m hs => ⟨Hp.empty, m, fun _ => .inl rfl, fun _ _ e => (by cases e), Hp.le_refl _, .inl ⟨rfl, rfl⟩, hs⟩

/-- A slice literal, all its elements written. -/
theorem bsl {E n bb : Nat} {parts : List (Nat × Operand)} {z : Value} [ht : TSlice c.P T E] [he : TEnc E e] [hz : ESize c.P E e.sz bb] [hZ : TZero c.P E z] (h : ∀ v, JS c ops rs l k (stput d v st) (sl E e v X :: Γ)) (hp : Parts st e 0 parts X := by (repeat constructor))
    (hn : X.length = n := by rfl) (hb : n * e.sz ≤ 16777216 := by decide) (hzl : z.cells.size = e.sz := by rfl) (hg : gOk ops st ⟨d, .buildSlice T n ⟨parts⟩, ty, pos, af, g⟩ = some true := by rfl) (hd : dOk d c.n = true := by rfl) : JR c ops (⟨⟨d, .buildSlice T n ⟨parts⟩, ty, pos, af, g⟩, false, rs⟩ :: l) k st Γ := by
  intro b cs a w h1 h2 h3 h4
  unfold CR
  simp only [gOk_wanted hg h3, if_true, Bool.false_eq_true, if_false]
  have hpos := e.pos
  have : (execOp a.eval ⟨d, .buildSlice T n ⟨parts⟩, ty, pos, af, g⟩).run c.P w = .ok (.value (.slice (some ⟨w.heap.size, 0, none⟩) X.length n)) (w.alloc (.cells ⟨flat e X⟩ E (0, 0))) := by
    have hz0 : ∀ (A : Array Value), A.size = (0 + X.length) * e.sz → Instr.fill (fun i => some (i * e.sz, e.sz)) A (parts.map fun p => (p.1, a.eval p.2)) = some ⟨flat e X⟩ := fun A hA => by
      rw [fill_parts h3 parts 0 X A hp hA]; simp
    simp only [execOp, Instr.buildSlice, Sem.run_bind, run_underlying ht.h, Result.andThen_ok, run_sizeOf (szOf_of hz.h), Sem.run_ite, run_zeroValue hZ.z, Sem.run_pure, Result.andThen_ite]
    rw [if_neg (by omega)]
    have hm : (((⟨parts⟩ : Array (Nat × Operand)).map fun (p : Nat × Operand) => (p.1, a.eval p.2)).toList) = parts.map fun p => (p.1, a.eval p.2) := by simp
    by_cases h0 : n * e.sz = 0
    · simp only [h0, if_true]
      rw [show ((⟨parts⟩ : Array (Nat × Operand)).map fun x => match x with | (i, x) => (i, a.eval x)).toList = parts.map fun p => (p.1, a.eval p.2) from hm]
      rw [hz0 _ (by simp [hn, h0])]
      simp [newRow, hn]
    · simp only [h0, if_false]
      rw [show ((⟨parts⟩ : Array (Nat × Operand)).map fun x => match x with | (i, x) => (i, a.eval x)).toList = parts.map fun p => (p.1, a.eval p.2) from hm]
      rw [hz0 _ (by simp [hn])]
      simp [newRow, hn]
  rw [this]
  refine JS_of (h _) h1 h2 (h3.put hd _) ?_
  subst hn
  exact sl_new h4 (Nat.le_refl _) (by unfold maxLen; have : X.length ≤ X.length * e.sz := Nat.le_mul_of_pos_right _ hpos; omega) (by simp [flat_length]) (by rw [← flat_length, List.take_length])

/-! ### append -/
theorem run_append_none {P : Program} {w : World} {t ty E : TypeId} {sz : Nat} (ht : P.underlying t = some (.slice E)) (hs : szOf P E = some sz) (p : Option Addr) (n cap m : Nat) (hn : n ≤ cap) :
    (Builtin.append_ #[t, t] ty #[.slice p n cap, .slice none 0 m]).run P w = .ok (.slice p n cap) w := by
  cases p <;> simp [Builtin.append_, run_underlying ht, run_sizeOf hs, Builtin.lenOf, hn, Builtin.firstCells, storeCells]
theorem setRow_heap_eq {w : World} {g : Nat} {old cs : Array Value} {E : TypeId} (hg : w.heap[g]? = some (.cells old E (0, 0))) : (w.setRow g cs).heap = w.heap.setIfInBounds g (.cells cs E (0, 0)) := by
  have hlt : g < w.heap.size := (Array.getElem?_eq_some_iff.1 hg).1
  apply Array.ext_getElem?
  intro j
  by_cases e : g = j
  · subst e; rw [setRow_heap w g old cs E (0, 0) hg]; simp [hlt]
  · rw [setRow_other w g j cs (Ne.symm e), Array.getElem?_setIfInBounds_ne e]

/-- The target of an append: nothing, or a row of its own; as it stands ahead of it. -/
def Tgt {α : Type} (E : TypeId) (e : EncT α) (t : Value) (K : List α) (Γ : List Assn) (B : World) (F : Assn) (w : World) : Prop :=
  (t = .slice none 0 0 ∧ K = [] ∧ Sat B F Γ w) ∨ ∃ g cap cur, t = .slice (some ⟨g, 0, none⟩) K.length cap ∧ Sat B F (blk g (.cells cur E (0, 0)) :: Γ) w ∧ K.length ≤ cap ∧ cap ≤ maxLen ∧ cur.size = cap * e.sz ∧ cur.toList.take (K.length * e.sz) = flat e K

theorem run_append_tgt {B w : World} {F : Assn} {P : Program} {E bb : Nat} {z : Value} {t s : Value} {K : List α} {tT ty : TypeId} (ht : P.underlying tT = some (.slice E)) (hz : (P.info? E).map (fun i => (i.size, i.bytes)) = some (e.sz, bb)) (hZ : (P.info? E).bind (·.zero) = some z) (hzl : z.cells.size = e.sz)
    (hT : Tgt E e t K Γ B F w) (hX : RdW w e s X) (hb : (K.length + X.length) * bb ≤ 140737488355328) (h63 : K.length + X.length ≤ maxLen) :
    ∃ v' w', (Builtin.append_ #[tT, tT] ty #[t, s]).run P w = .ok v' w' ∧ Sat B F (sl E e v' (K ++ X) :: Γ) w' := by
  obtain ⟨i, hi, hib⟩ := Option.map_eq_some_iff.1 hz
  have hZ' : i.zero = some z := by rw [hi] at hZ; exact hZ
  simp only [Prod.mk.injEq] at hib
  obtain ⟨hi1, hi2⟩ := hib
  have h63' := h63
  unfold maxLen at h63
  have hlenKX : (K ++ X).length = K.length + X.length := List.length_append
  have grown : ∀ (old : Nat) (w0 : World), Sat B F Γ w → w0 = w.drew → Sat B F (sl E e (.slice (some ⟨w.heap.size, 0, none⟩) (K.length + X.length) (grownCap w (K.length + X.length) old E)) (K ++ X) :: Γ)
      (w0.alloc (.cells ((flat e K).toArray ++ (flat e X).toArray ++ Builtin.zeroCells z.cells (grownCap w (K.length + X.length) old E - (K.length + X.length))) E)) := by
    intro old w0 hS hw0
    subst hw0
    have hge := grownCap_ge w (K.length + X.length) old E
    have := sl_new (e := e) (L := K ++ X) (E := E) (cap := grownCap w (K.length + X.length) old E) (cur := (flat e K).toArray ++ (flat e X).toArray ++ Builtin.zeroCells z.cells (grownCap w (K.length + X.length) old E - (K.length + X.length))) hS.drew (by rw [hlenKX]; exact hge) (grownCap_le_maxLen w _ old E h63') (by
      simp only [Array.size_append, List.size_toArray, size_zeroCells, hzl, flat_length, ← Nat.add_mul]
      congr 1; omega) (by
      simp only [Array.toList_append, List.append_assoc]
      rw [← List.append_assoc, ← flat_append, ← flat_length]
      exact List.take_left)
    rw [hlenKX] at this
    exact this
  rcases hX with ⟨rfl, rfl⟩ | ⟨xb, xo, xc, xcur, xE, xfz, rfl, hxc, hxh, hxg⟩
  · -- nothing to append
    rcases hT with ⟨rfl, rfl, hS⟩ | ⟨g, cap, cur, rfl, hS, h1, h2, h3, h4⟩
    · exact ⟨_, w, run_append_none ht (szOf_of hz) none 0 0 0 (Nat.le_refl _), by simpa using sl_nil hS⟩
    · refine ⟨_, w, run_append_none ht (szOf_of hz) _ _ _ 0 h1, ?_⟩
      simp only [List.append_nil]
      exact sl_close hS h1 h2 h3 h4
  · have hnews : ∀ j u, (flat e X)[j]? = some u → w.cell? ((⟨xb, xo, none⟩ : Addr).add j) = some u := by
      intro j u hu
      have hj : j < X.length * e.sz := by
        rw [← flat_length]
        rcases Nat.lt_or_ge j (flat e X).length with h | h
        · exact h
        · rw [List.getElem?_eq_none h] at hu; cases hu
      rw [add_none]
      exact cell_of (l := xcur.toList) hxh (by rw [hxg j hj, hu])
    rcases hT with ⟨rfl, rfl, hS⟩ | ⟨g, cap, cur, rfl, hS, h1, h2, h3, h4⟩
    · by_cases hx0 : X.length = 0
      · obtain rfl := List.length_eq_zero_iff.1 hx0
        refine ⟨.slice none 0 0, w, ?_, by simpa using sl_nil hS⟩
        simp [Builtin.append_, run_underlying ht, run_sizeOf (szOf_of hz), Builtin.lenOf, Builtin.firstCells, loadCells, loadCellsFrom]
      · have hr := run_append_nil (P := P) w tT ty E i z ht hi hZ' ⟨xb, xo, none⟩ X.length xc (flat e X) (by rw [flat_length, hi1]) hnews (by omega) (by omega) (by rw [hi2]; simp at hb; omega)
        refine ⟨_, _, hr, ?_⟩
        have := grown 0 w.drew hS rfl
        simpa [flat_nil] using this
    · have hg := (hS.blk .here).2
      by_cases hroom : K.length + X.length ≤ cap
      · have hfit : K.length * i.size + (flat e X).length ≤ cur.size := by rw [flat_length, h3, hi1, ← Nat.add_mul]; exact Nat.mul_le_mul_right _ hroom
        have hr := run_append_room (P := P) w tT ty E i ht hi g K.length cap cur hg ⟨xb, xo, none⟩ X.length xc (flat e X) (by rw [flat_length, hi1]) hnews (flat_ok X) hroom hfit
        refine ⟨_, _, hr, ?_⟩
        have := sl_close (e := e) (L := K ++ X) (cap := cap) (cur := (cur.toList.take (K.length * i.size) ++ flat e X ++ cur.toList.drop (K.length * i.size + (flat e X).length)).toArray) (hS.write (setRow_heap_eq hg) rfl rfl rfl) (by rw [hlenKX]; exact hroom) h2 (by
          rw [hi1] at hfit
          simp only [hi1, flat_length, List.size_toArray, List.length_append, List.length_take, List.length_drop, Array.length_toList]
          rw [flat_length] at hfit
          omega) (by
          show List.take _ (cur.toList.take (K.length * i.size) ++ flat e X ++ cur.toList.drop (K.length * i.size + (flat e X).length)) = _
          rw [hi1, h4, ← flat_append, ← flat_length]
          exact List.take_left)
        rw [hlenKX] at this
        exact this
      · have holds : ∀ j u, (flat e K)[j]? = some u → w.cell? ((⟨g, 0, none⟩ : Addr).add j) = some u := by
          intro j u hu
          have hj : j < K.length * e.sz := by
            rw [← flat_length]
            rcases Nat.lt_or_ge j (flat e K).length with h | h
            · exact h
            · rw [List.getElem?_eq_none h] at hu; cases hu
          rw [add_none, Nat.zero_add]
          refine cell_of (l := cur.toList) hg ?_
          rw [← h4, List.getElem?_take, if_pos hj] at hu
          exact hu
        have hr := run_append_grow (P := P) w tT ty E i z ht hi hZ' ⟨g, 0, none⟩ K.length cap (flat e K) (by rw [flat_length, hi1]) holds ⟨xb, xo, none⟩ X.length xc (flat e X) (by rw [flat_length, hi1]) hnews (by omega) (by omega) (by rw [hi2]; exact growslice_fits (by omega) hb)
        exact ⟨_, _, hr, grown cap w.drew hS.tail rfl⟩

theorem tgt_sl {B w : World} {F : Assn} {E : TypeId} (hS : Sat B F (sl E e v L :: Γ) w) : Tgt E e v L Γ B F w := by
  obtain ⟨hb, m, hm, h1, h2, d, l1, l2, hF, h3, h4, d', l3, l4, hA, hs⟩ := hS
  rcases hA with ⟨rfl, rfl⟩ | ⟨g, cap, cur, rfl, e2, e3, e4, e5, e6⟩
  · exact .inl ⟨rfl, rfl, hb, m, hm, h1, h2, d, l1, l2, hF, sat_mono l4 hs⟩
  · exact .inr ⟨g, cap, cur, rfl, ⟨hb, m, hm, h1, h2, d, l1, l2, hF, h3, h4, d', l3, l4, e2, hs⟩, e3, e4, e5, e6⟩
theorem tgt_take {B w : World} {F : Assn} {E : TypeId} {n : Nat} (hn : n ≤ L.length) (h : Tgt E e v L Γ B F w) : Tgt E e (vw v 0 n e.sz) (L.take n) Γ B F w := by
  have hl : (L.take n).length = n := by simp; omega
  rcases h with ⟨rfl, rfl, hS⟩ | ⟨g, cap, cur, rfl, hS, h1, h2, h3, h4⟩
  · simp at hn; subst hn
    exact .inl ⟨by simp [vw], by simp, hS⟩
  · refine .inr ⟨g, cap, cur, ?_, hS, by rw [hl]; omega, h2, h3, ?_⟩
    · unfold vw
      simp only [hl, Nat.sub_zero, Nat.zero_mul]
      by_cases hc : cap = 0
      · simp [hc]
      · simp [hc, Addr.add]
    · rw [hl, flat_take, ← h4, List.take_take, Nat.min_eq_left (Nat.mul_le_mul_right _ hn)]

/-- append(s, xs...): s owned; xs read, of what is not s's own. -/
theorem apd {E bb : Nat} {z s : Value} {K : List α} {Γ' : List Assn} [ht : TSlice c.P T E] [hz : ESize c.P E e.sz bb] [hZ : TZero c.P E z] (hx : ev st x = some v) (hy : ev st y = some s)
    (hT : ∀ B F w, Sat B F Γ w → Tgt E e v K Γ' B F w) (hX : ∀ B F w, Sat B F Γ w → RdW w e s X) (h : ∀ v', JS c ops rs l k (stput d v' st) (sl E e v' (K ++ X) :: Γ')) (hb : (K.length + X.length) * bb ≤ 140737488355328) (hm : K.length + X.length ≤ 9223372036854775807) (hzl : z.cells.size = e.sz := by rfl)
    (hg : gOk ops st ⟨d, .call ⟨.builtin .append, #[x, y], #[T, T]⟩, ty, pos, af, g⟩ = some true := by rfl) (hd : dOk d c.n = true := by rfl) : JR c ops (⟨⟨d, .call ⟨.builtin .append, #[x, y], #[T, T]⟩, ty, pos, af, g⟩, false, rs⟩ :: l) k st Γ := by
  intro b cs a w h1 h2 h3 h4
  unfold CR
  simp only [gOk_wanted hg h3, if_true, Bool.false_eq_true, if_false]
  obtain ⟨v', w', hr, hS⟩ := run_append_tgt (ty := ty) ht.h hz.h hZ.z hzl (hT _ _ _ h4) (hX _ _ _ h4) hb (by unfold maxLen; exact hm)
  rw [run_builtin (vs := [v, s]) (by simp [ev_eval h3 hx, ev_eval h3 hy]) (r := .ok (.value v') w') (fun cs => by simp [builtin, hr])]
  exact JS_of (h v') h1 h2 (h3.put hd _) hS

/-! ### slicing -/
theorem RO_slice {lo hi : Option Operand} {E : TypeId} {A Bq : Nat} [ht : TSlice c.P T E] {sz bb : Nat} [hz : ESize c.P E sz bb] (hv : ev st x = some v)
    (hlo : match lo with | none => A = 0 | some q => ∃ i, ev st q = some (.int i A)) (hhi : match hi with | none => ∀ p n m, v = .slice p n m → Bq = n | some q => ∃ i, ev st q = some (.int i Bq)) (hr : ∀ w, Sat c.B c.F Γ w → ∃ p n m, v = .slice p n m ∧ n ≤ m ∧ A ≤ Bq ∧ Bq ≤ m) :
    RO c st Γ ⟨d, .slice T x lo hi none, ty, pos, af, g⟩ (vw v A Bq sz) := fun a w ha hS => by
  obtain ⟨p, n, m, rfl, hnm, h1, h2⟩ := hr w hS
  have e1 : ∀ (q : Operand) (i : IntKind) (N : Nat), ev st q = some (.int i N) → a.eval q = .int i N := fun q i N h => ev_eval ha h
  have f1 : ∀ (i : IntKind) (N M : Nat) (code : BoundsCode), N ≤ M → (Instr.sliceBound (.int i N) M code).run c.P w = .ok N w := fun i N M code h => by
    have := run_sliceB (P := c.P) (w := w) (j := i) (i := N) (y := M) (code := code) (by omega)
    simpa using this
  simp only [execOp, ev_eval ha hv, Instr.sliceAt, Instr.slice, Sem.run_bind, run_underlying ht.h, Result.andThen_ok, Instr.sliceBounds, Option.map_none, run_sizeOf (szOf_of hz.h)]
  cases lo with
  | none =>
    dsimp only at hlo
    subst hlo
    cases hi with
    | none => have := hhi p n m rfl; subst this; simp [vw, run_sizeOf (szOf_of hz.h)]
    | some q => obtain ⟨i, hq⟩ := hhi; simp [e1 q i Bq hq, f1 i Bq m _ h2, vw, run_sizeOf (szOf_of hz.h)]
  | some q0 =>
    obtain ⟨i0, hq0⟩ := hlo
    cases hi with
    | none => have := hhi p n m rfl; subst this; simp [e1 q0 i0 A hq0, f1 i0 A Bq _ h1, vw, run_sizeOf (szOf_of hz.h)]
    | some q => obtain ⟨i, hq⟩ := hhi; simp [e1 q0 i0 A hq0, e1 q i Bq hq, f1 i Bq m _ h2, f1 i0 A Bq _ h1, vw, run_sizeOf (szOf_of hz.h)]

theorem RdW.cap {w : World} (h : RdW w e v L) : ∃ p m, v = .slice p L.length m ∧ L.length ≤ m := by
  rcases h with ⟨h1, h2⟩ | ⟨b, off, cap, cur, E, fz, h1, h2, h3, h4⟩
  · exact ⟨none, 0, by rw [h1, h2]; rfl, by rw [h2]; exact Nat.le_refl _⟩
  · exact ⟨_, cap, h1, h2⟩
/-- s[i:j], s[i:], s[:j], of a slice that is read: within its length. -/
theorem sli {lo hi : Operand} {i j : IntKind} {m n : Int} {E bb : Nat} [ht : TSlice c.P T E] (hv : ev st x = some v) [hr : RdG Γ v e L] [hz : ESize c.P E e.sz bb] (h : JR c ops l k (stput d (vw v m.toNat n.toNat e.sz) st) Γ) (hl : ev st lo = some (.int i m) := by rfl) (hh : ev st hi = some (.int j n) := by rfl) (hb : 0 ≤ m ∧ m ≤ n ∧ n ≤ L.length := by omega)
    (hg : gOk ops st ⟨d, .slice T x (some lo) (some hi) none, ty, pos, af, g⟩ = some true := by rfl) (hd : dOk d c.n = true := by rfl) : JR c ops (⟨⟨d, .slice T x (some lo) (some hi) none, ty, pos, af, g⟩, fl, []⟩ :: l) k st Γ :=
  ro h (RO_slice (sz := e.sz) hv ⟨i, by rw [hl, Int.toNat_of_nonneg hb.1]⟩ ⟨j, by rw [hh, Int.toNat_of_nonneg (by omega)]⟩ fun w hS => by
    obtain ⟨p, M, h1, h2⟩ := (hr.h _ _ _ hS).cap
    exact ⟨p, _, M, h1, h2, by omega, by omega⟩) hg hd
theorem slil {lo : Operand} {i : IntKind} {m : Int} {E bb : Nat} [ht : TSlice c.P T E] (hv : ev st x = some v) [hr : RdG Γ v e L] [hz : ESize c.P E e.sz bb] (h : JR c ops l k (stput d (vw v m.toNat L.length e.sz) st) Γ) (hl : ev st lo = some (.int i m) := by rfl) (hb : 0 ≤ m ∧ m ≤ L.length := by omega)
    (hg : gOk ops st ⟨d, .slice T x (some lo) none none, ty, pos, af, g⟩ = some true := by rfl) (hd : dOk d c.n = true := by rfl) : JR c ops (⟨⟨d, .slice T x (some lo) none none, ty, pos, af, g⟩, fl, []⟩ :: l) k st Γ := by
  refine ro h (fun a w ha hS => ?_) hg hd
  obtain ⟨p, M, h1, h2⟩ := (hr.h _ _ _ hS).cap
  exact RO_slice (c := c) (Γ := Γ) (sz := e.sz) (lo := some lo) (hi := none) hv ⟨i, by rw [hl, Int.toNat_of_nonneg hb.1]⟩ (fun p' n' m' he => by rw [h1] at he; cases he; rfl) (fun w hS => by
    obtain ⟨p, M, h1, h2⟩ := (hr.h _ _ _ hS).cap
    exact ⟨p, _, M, h1, h2, by omega, h2⟩) a w ha hS
theorem slih {hi : Operand} {j : IntKind} {n : Int} {E bb : Nat} [ht : TSlice c.P T E] (hv : ev st x = some v) [hr : RdG Γ v e L] [hz : ESize c.P E e.sz bb] (h : JR c ops l k (stput d (vw v 0 n.toNat e.sz) st) Γ) (hh : ev st hi = some (.int j n) := by rfl) (hb : 0 ≤ n ∧ n ≤ L.length := by omega)
    (hg : gOk ops st ⟨d, .slice T x none (some hi) none, ty, pos, af, g⟩ = some true := by rfl) (hd : dOk d c.n = true := by rfl) : JR c ops (⟨⟨d, .slice T x none (some hi) none, ty, pos, af, g⟩, fl, []⟩ :: l) k st Γ :=
  ro h (RO_slice (sz := e.sz) (lo := none) hv rfl ⟨j, by rw [hh, Int.toNat_of_nonneg hb.1]⟩ fun w hS => by
    obtain ⟨p, M, h1, h2⟩ := (hr.h _ _ _ hS).cap
    exact ⟨p, _, M, h1, h2, by omega, by omega⟩) hg hd
end
end Go.Proofs.YtaeefjcbmkiiaaaGreatDoor.Sl
/- Maps that the walk owns: looked up, written, deleted from, counted, ranged over. -/
namespace Go.Proofs.YtaeefjcbmkiiaaaGreatDoor.Sl
open Go Go.RowKit

/-- How a map's keys and values are told. -/
structure MapT (κ α : Type) [DecidableEq κ] where
  key : κ → Value
  val : α → Value
  fits : TypeDesc → Bool
  same : ∀ D a b, fits D = true → Instr.sameNow D (key a) (key b) = some (decide (a = b))
  plain : ∀ D, fits D = true → (match D with | .interface _ | .array _ _ | .struct _ => false | _ => true) = true
  bits : ∀ n a, Instr.sameBits n (key a) (key a) = true
section
variable {κ α : Type} [DecidableEq κ]
def assoc : List (κ × α) → κ → Option α
  | [], _ => none
  | (k', x) :: l, k => if k = k' then some x else assoc l k
def aidx : List (κ × α) → κ → Option Nat
  | [], _ => none
  | (k', _) :: l, k => if k = k' then some 0 else (aidx l k).map (· + 1)
def aput : List (κ × α) → κ → α → List (κ × α)
  | [], k, x => [(k, x)]
  | (k', y) :: l, k, x => if k = k' then (k, x) :: l else (k', y) :: aput l k x
def adel : List (κ × α) → κ → List (κ × α)
  | [], _ => []
  | (k', y) :: l, k => if k = k' then l else (k', y) :: adel l k

variable {M : MapT κ α}
def ekv (e : MapEntry) : Value × Value := (e.key, e.val)
def mkv (M : MapT κ α) (p : κ × α) : Value × Value := (M.key p.1, M.val p.2)
structure MapIs (M : MapT κ α) (es : Array MapEntry) (clock : Nat) (l : List (κ × α)) : Prop where
  kv : es.toList.map ekv = l.map (mkv M)
  nd : (es.toList.map (·.born)).Nodup
  lt : ∀ e ∈ es.toList, e.born < clock

theorem findNow_some {D : TypeDesc} (hD : M.fits D = true) (k : κ) : ∀ (es : List MapEntry) (l : List (κ × α)) (i : Nat), es.map ekv = l.map (mkv M) →
    Instr.findNow D (M.key k) es i = some (match aidx l k with | some j => some (i + j, (es.getD j default).val) | none => none)
  | [], [], i, _ => rfl
  | [], p :: l, i, h => by simp at h
  | e :: es, [], i, h => by simp at h
  | e :: es, (k', x) :: l, i, h => by
    simp only [List.map_cons, List.cons.injEq, ekv, mkv, Prod.mk.injEq] at h
    obtain ⟨⟨h1, h2⟩, h3⟩ := h
    simp only [Instr.findNow, h1, M.same D k k' hD]
    by_cases hk : k = k'
    · simp [hk, aidx]
    · have := findNow_some hD k es l (i + 1) h3
      simp only [hk, decide_false, this, aidx, if_false]
      cases aidx l k with
      | none => rfl
      | some j => simp [Nat.add_assoc, Nat.add_comm 1 j]
theorem aidx_spec (k : κ) : ∀ (l : List (κ × α)), (match aidx l k with | some j => ∃ x, assoc l k = some x ∧ l[j]? = some (k, x) | none => assoc l k = none)
  | [] => rfl
  | (k', x) :: l => by
    by_cases hk : k = k'
    · subst hk; simp [aidx, assoc]
    · have := aidx_spec k l
      simp only [aidx, assoc, hk, if_false]
      cases h : aidx l k with
      | none => rw [h] at this; simpa using this
      | some j => rw [h] at this; simpa using this
theorem aput_idx (k : κ) (x : α) : ∀ (l : List (κ × α)), aput l k x = match aidx l k with | some j => l.set j (k, x) | none => l ++ [(k, x)]
  | [] => rfl
  | (k', y) :: l => by
    by_cases hk : k = k'
    · simp [aput, aidx, hk]
    · have := aput_idx k x l
      simp only [aput, aidx, hk, if_false, this]
      cases aidx l k <;> rfl
theorem adel_idx (k : κ) : ∀ (l : List (κ × α)), adel l k = match aidx l k with | some j => l.eraseIdx j | none => l
  | [] => rfl
  | (k', y) :: l => by
    by_cases hk : k = k'
    · simp [adel, aidx, hk]
    · have := adel_idx k l
      simp only [adel, aidx, hk, if_false, this]
      cases aidx l k <;> rfl

theorem map_eraseIdx' {β γ : Type} (f : β → γ) : ∀ (l : List β) (j : Nat), (l.eraseIdx j).map f = (l.map f).eraseIdx j
  | [], _ => rfl
  | _ :: _, 0 => rfl
  | x :: l, j + 1 => by simp [List.eraseIdx, map_eraseIdx' f l j]
theorem run_checkKey {P : Program} {K : TypeId} {D : TypeDesc} (hu : P.underlying K = some D) (hD : M.fits D = true) (em : Bool) (v : Value) (w : World) : (Instr.checkKey em 10000 K v).run P w = .ok () w := by
  have hp := M.plain D hD
  rw [show (10000 : Nat) = 9999 + 1 from rfl, Instr.checkKey]
  simp only [Sem.run_bind, run_underlying hu, Result.andThen_ok]
  cases D <;> simp at hp <;> (cases v <;> rfl)
theorem run_findKey {P : Program} {K : TypeId} {D : TypeDesc} (hu : P.underlying K = some D) (hD : M.fits D = true) (k : κ) {es : Array MapEntry} {l : List (κ × α)} (h : es.toList.map ekv = l.map (mkv M)) (w : World) :
    (Instr.findKey K (M.key k) es.toList).run P w = .ok (match aidx l k with | some j => some (j, (es.toList.getD j default).val) | none => none) w := by
  simp only [Instr.findKey, Sem.run_bind, run_underlying hu, Result.andThen_ok, findNow_some hD k es.toList l 0 h, Nat.zero_add]
  rfl
theorem kv_get {es : Array MapEntry} {l : List (κ × α)} (h : es.toList.map ekv = l.map (mkv M)) {j : Nat} {k : κ} {x : α} (hj : l[j]? = some (k, x)) : ∃ e, es.toList[j]? = some e ∧ e.key = M.key k ∧ e.val = M.val x := by
  have := congrArg (fun l => l[j]?) h
  simp only [List.getElem?_map, hj, Option.map_some] at this
  obtain ⟨e, he, hv⟩ := Option.map_eq_some_iff.1 this
  simp only [ekv, mkv, Prod.mk.injEq] at hv
  exact ⟨e, he, hv.1, hv.2⟩
end

/-- A map that the walk owns. -/
def mp {κ α : Type} [DecidableEq κ] (M : MapT κ α) (b : Nat) (l : List (κ × α)) : Assn := fun _ h => ∃ es clock, h b = some (.map es clock) ∧ MapIs M es clock l
/-- .. while it is ranged over: what is left; the one that has come up. -/
def mpi {κ α : Type} [DecidableEq κ] (M : MapT κ α) (m b : Nat) (l left : List (κ × α)) (cur : Option (κ × α)) : Assn := fun _ h => ∃ es clock seen, m ≠ b ∧ h m = some (.map es clock) ∧ h b = some (.mapIter (some m) clock seen clock) ∧ MapIs M es clock l ∧
  (es.toList.filter fun e => !seen.contains e.born).map ekv = left.map (mkv M) ∧ (match cur with | none => True | some p => ∃ e ∈ es.toList, seen.back? = some e.born ∧ ekv e = mkv M p)
class SelM (Γ : List Assn) (b : Nat) {κ α : outParam Type} [i : outParam (DecidableEq κ)] (M : outParam (MapT κ α)) (l : outParam (List (κ × α))) (Γ' : outParam (List Assn)) : Prop where
  h : Sel Γ (mp M b l) Γ'
instance SelM.here {κ α : Type} [DecidableEq κ] {M : MapT κ α} {b : Nat} {l : List (κ × α)} {Γ : List Assn} : SelM (mp M b l :: Γ) b M l Γ := ⟨.here⟩
instance (priority := low) SelM.there {κ α : Type} [DecidableEq κ] {M : MapT κ α} {b : Nat} {l : List (κ × α)} {A : Assn} {Γ Γ' : List Assn} [h : SelM Γ b M l Γ'] : SelM (A :: Γ) b M l (A :: Γ') := ⟨.there h.h⟩
class SelI (Γ : List Assn) (b : Nat) {κ α : outParam Type} [i : outParam (DecidableEq κ)] (M : outParam (MapT κ α)) (m : outParam Nat) (l left : outParam (List (κ × α))) (cur : outParam (Option (κ × α))) (Γ' : outParam (List Assn)) : Prop where
  h : Sel Γ (mpi M m b l left cur) Γ'
instance SelI.here {κ α : Type} [DecidableEq κ] {M : MapT κ α} {m b : Nat} {l left : List (κ × α)} {cur : Option (κ × α)} {Γ : List Assn} : SelI (mpi M m b l left cur :: Γ) b M m l left cur Γ := ⟨.here⟩
instance (priority := low) SelI.there {κ α : Type} [DecidableEq κ] {M : MapT κ α} {m b : Nat} {l left : List (κ × α)} {cur : Option (κ × α)} {A : Assn} {Γ Γ' : List Assn} [h : SelI Γ b M m l left cur Γ'] : SelI (A :: Γ) b M m l left cur (A :: Γ') := ⟨.there h.h⟩
/-- A type of keys that fits. -/
class KFit (P : Program) (K : TypeId) {κ α : Type} [DecidableEq κ] (M : MapT κ α) : Prop where
  h : ∃ D, P.underlying K = some D ∧ M.fits D = true

section
variable {κ α : Type} [DecidableEq κ] {M : MapT κ α} {B w : World} {F : Assn} {Γ : List Assn}
theorem mp_open {b : Nat} {l : List (κ × α)} (h : Sat B F (mp M b l :: Γ) w) : ∃ es clock, MapIs M es clock l ∧ Sat B F (blk b (.map es clock) :: Γ) w := by
  obtain ⟨hb, m, hm, h1, h2, d, l1, l2, hF, h3, h4, d', l3, l4, ⟨es, clock, hh, hi⟩, hs⟩ := h
  exact ⟨es, clock, hi, hb, m, hm, h1, h2, d, l1, l2, hF, h3, h4, d', l3, l4, hh, hs⟩
theorem mp_close {b : Nat} {l : List (κ × α)} {es : Array MapEntry} {clock : Nat} (h : Sat B F (blk b (.map es clock) :: Γ) w) (hi : MapIs M es clock l) : Sat B F (mp M b l :: Γ) w := by
  obtain ⟨hb, m, hm, h1, h2, d, l1, l2, hF, h3, h4, d', l3, l4, hh, hs⟩ := h
  exact ⟨hb, m, hm, h1, h2, d, l1, l2, hF, h3, h4, d', l3, l4, ⟨es, clock, hh, hi⟩, hs⟩
theorem mpi_open {m b : Nat} {l left : List (κ × α)} {cur : Option (κ × α)} (h : Sat B F (mpi M m b l left cur :: Γ) w) : ∃ es clock seen, m ≠ b ∧ MapIs M es clock l ∧ (es.toList.filter fun e => !seen.contains e.born).map ekv = left.map (mkv M) ∧
    (match cur with | none => True | some p => ∃ e ∈ es.toList, seen.back? = some e.born ∧ ekv e = mkv M p) ∧ Sat B F (blk b (.mapIter (some m) clock seen clock) :: blk m (.map es clock) :: Γ) w := by
  obtain ⟨hb, M', hm, h1, h2, d, l1, l2, hF, h3, h4, d', l3, l4, ⟨es, clock, seen, hne, hmm, hbb, hi, hl, hc⟩, hs⟩ := h
  refine ⟨es, clock, seen, hne, hi, hl, hc, hb, M', hm, h1, h2, d, l1, l2, hF, Hp.one b (.mapIter (some m) clock seen clock), Hp.union (Hp.one m (.map es clock)) h4, ?_, ?_, ?_, by simp [blk, Hp.one], Hp.one m (.map es clock), h4, ?_, ?_, ?_, by simp [blk, Hp.one], hs⟩
  · intro x
    by_cases e : x = b
    · right
      subst e
      have : h4 x = none := (d' x).resolve_left (by rw [hbb]; simp)
      simp [Hp.union, Hp.one, Ne.symm hne, this]
    · left; simp [Hp.one, e]
  · intro x o e
    by_cases ex : x = b
    · subst ex; simp [Hp.one] at e; subst e; exact l3 _ _ hbb
    · simp [Hp.one, ex] at e
  · refine Hp.union_le (fun x o e => ?_) l4
    by_cases ex : x = m
    · subst ex; simp [Hp.one] at e; subst e; exact l3 _ _ hmm
    · simp [Hp.one, ex] at e
  · intro x
    by_cases e : x = m
    · right; subst e; exact (d' x).resolve_left (by rw [hmm]; simp)
    · left; simp [Hp.one, e]
  · exact Hp.le_union_left _ _
  · refine Hp.le_union_right fun x => ?_
    by_cases e : x = m
    · right; subst e; exact (d' x).resolve_left (by rw [hmm]; simp)
    · left; simp [Hp.one, e]
theorem mpi_close {m b : Nat} {l left : List (κ × α)} {cur : Option (κ × α)} {es : Array MapEntry} {clock : Nat} {seen : Array Nat} (h : Sat B F (blk b (.mapIter (some m) clock seen clock) :: blk m (.map es clock) :: Γ) w) (hi : MapIs M es clock l) (hl : (es.toList.filter fun e => !seen.contains e.born).map ekv = left.map (mkv M))
    (hc : match cur with | none => True | some p => ∃ e ∈ es.toList, seen.back? = some e.born ∧ ekv e = mkv M p) : Sat B F (mpi M m b l left cur :: Γ) w := by
  have hne : b ≠ m := h.ne
  obtain ⟨hb, M', hm, h1, h2, d, l1, l2, hF, h3, h4, d', l3, l4, hbb, h5, h6, d'', l5, l6, hmm, hs⟩ := h
  have dd : Hp.disj h3 h5 := Hp.disj_le d' (Hp.le_refl _) l5
  refine ⟨hb, M', hm, h1, h2, d, l1, l2, hF, Hp.union h3 h5, h6, Hp.disj_union (Hp.disj_le d' (Hp.le_refl _) l6) d'', Hp.union_le l3 (Hp.le_trans l5 l4), Hp.le_trans l6 l4, ⟨es, clock, seen, Ne.symm hne, Hp.le_union_right dd _ _ hmm, Hp.le_union_left _ _ _ _ hbb, hi, hl, hc⟩, hs⟩
theorem mpi_done {m b : Nat} {l left : List (κ × α)} {cur : Option (κ × α)} (h : Sat B F (mpi M m b l left cur :: Γ) w) : Sat B F (mp M m l :: Γ) w := by
  obtain ⟨es, clock, seen, _, hi, _, _, hS⟩ := mpi_open h
  exact mp_close hS.tail hi

theorem run_getObj {P : Program} {r : Nat} {o : Obj} (h : w.heap[r]? = some o) (hc : ∀ c e f, o ≠ .cells c e f) : (getObj r).run P w = .ok o w := by
  unfold getObj
  cases o <;> first | (exact absurd rfl (hc _ _ _)) | simp only [Sem.run, h]
theorem run_setObj {P : Program} {r : Nat} {o o' : Obj} (h : w.heap[r]? = some o) (hc : ∀ c e f, o ≠ .cells c e f) : (setObj r o').run P w = .ok () { w with heap := w.heap.setIfInBounds r o' } := by
  unfold setObj
  cases o <;> first | (exact absurd rfl (hc _ _ _)) | simp only [Sem.run, h]
end

section
variable {c : Ctx} {k : List Item} {st : St} {Γ : List Assn} {d : Option Tmp} {ty : TypeId} {pos : String} {af : Array Edge} {g : Option (Nat × Bool)} {ops : Array Oper} {rs : List Oper} {l : List Stp} {fl : Bool}
variable {x y z : Operand} {T U : TypeId} {κ α : Type} [iκ : DecidableEq κ] {M : MapT κ α} {m : Nat} {L : List (κ × α)} {Γ' : List Assn}

/-- len(m). -/
theorem lnm {K E : TypeId} [ht : TMap c.P T K E] (hv : ev st x = some (.map (some m))) [hs : SelM Γ m M L Γ'] (h : JR c ops l k (stput d (.int .i64 L.length) st) Γ) (hg : gOk ops st ⟨d, .call ⟨.builtin .len, #[x], #[T]⟩, ty, pos, af, g⟩ = some true := by rfl) (hd : dOk d c.n = true := by rfl) :
    JR c ops (⟨⟨d, .call ⟨.builtin .len, #[x], #[T]⟩, ty, pos, af, g⟩, fl, []⟩ :: l) k st Γ :=
  ro h (fun a w ha hS => by
    obtain ⟨es, clock, hi, hS'⟩ := mp_open (hS.perm hs.h.perm)
    refine run_builtin (vs := [.map (some m)]) (by simp [ev_eval ha hv]) fun cs => ?_
    have hlen : es.size = L.length := by have := congrArg List.length hi.kv; simpa using this
    simp [builtin, Builtin.len_, run_underlying ht.h, run_getObj (P := c.P) (hS'.blk .here).2 (by simp), goInt, hlen]) hg hd
/-- m[k], v, ok := m[k]. -/
theorem RO_lookup {K E : TypeId} {zv : Value} {ok : Bool} {q : κ} [ht : TMap c.P T K E] [hz : TZero c.P E zv] [hk : KFit c.P K M] (hv : ev st x = some (.map (some m))) (hy : ev st y = some (M.key q)) [hs : SelM Γ m M L Γ'] {u : Value} (hu : u = match assoc L q with | some a => (if ok then .tuple #[M.val a, .bool true] else M.val a) | none => (if ok then .tuple #[zv, .bool false] else zv)) :
    RO c st Γ ⟨d, .lookup T x y ok, ty, pos, af, g⟩ u := fun a w ha hS => by
  obtain ⟨es, clock, hi, hS'⟩ := mp_open (hS.perm hs.h.perm)
  obtain ⟨D, hD, hfit⟩ := hk.h
  simp only [execOp, ev_eval ha hv, ev_eval ha hy, Instr.lookup, Sem.run_bind, run_underlying ht.h, Result.andThen_ok, run_getObj (P := c.P) (hS'.blk .here).2 (by simp), Sem.run_pure, run_checkKey hD hfit, run_findKey hD hfit q hi.kv]
  have hsp := aidx_spec q L
  cases haq : aidx L q with
  | none =>
    rw [haq] at hsp
    simp only [hsp] at hu
    subst hu
    cases ok <;> simp [run_zeroValue hz.z]
  | some j =>
    rw [haq] at hsp
    obtain ⟨xv, h1, h2⟩ := hsp
    simp only [h1] at hu
    obtain ⟨e, he, _, hev⟩ := kv_get hi.kv h2
    subst hu
    cases ok <;> simp [he, hev]
theorem lko {K E : TypeId} {zv : Value} {ok : Bool} {q : κ} [ht : TMap c.P T K E] [hz : TZero c.P E zv] [hs : SelM Γ m M L Γ'] [hk : KFit c.P K M] (hv : ev st x = some (.map (some m))) (hy : ev st y = some (M.key q)) 
    (h1 : ∀ a, assoc L q = some a → JR c ops l k (stput d (if ok then .tuple #[M.val a, .bool true] else M.val a) st) Γ) (h0 : assoc L q = none → JR c ops l k (stput d (if ok then .tuple #[zv, .bool false] else zv) st) Γ)
    (hg : gOk ops st ⟨d, .lookup T x y ok, ty, pos, af, g⟩ = some true := by rfl) (hd : dOk d c.n = true := by rfl) : JR c ops (⟨⟨d, .lookup T x y ok, ty, pos, af, g⟩, fl, []⟩ :: l) k st Γ := by
  cases hq : assoc L q with
  | none => exact ro (h0 hq) (RO_lookup hv hy (by rw [hq])) hg hd
  | some a => exact ro (h1 a hq) (RO_lookup hv hy (by rw [hq])) hg hd

/-- m[k] = v. -/
theorem mpu {K E : TypeId} {q : κ} {xv : α} {u : Value} [ht : TMap c.P T K E] [hs : SelM Γ m M L Γ'] [hk : KFit c.P K M] (hv : ev st x = some (.map (some m))) (hy : ev st y = some (M.key q)) (hz : ev st z = some u) (hu : u = M.val xv) (h : JS c ops rs l k (stput d undef st) (mp M m (aput L q xv) :: Γ'))
    (hg : gOk ops st ⟨d, .mapUpdate T x y z, ty, pos, af, g⟩ = some true := by rfl) (hd : dOk d c.n = true := by rfl) : JR c ops (⟨⟨d, .mapUpdate T x y z, ty, pos, af, g⟩, false, rs⟩ :: l) k st Γ := by
  subst hu
  intro b cs a w h1 h2 h3 h4
  unfold CR
  simp only [gOk_wanted hg h3, if_true, Bool.false_eq_true, if_false]
  obtain ⟨es, clock, hi, hS⟩ := mp_open (h4.perm hs.h.perm)
  obtain ⟨D, hD, hfit⟩ := hk.h
  have hget := run_getObj (P := c.P) (hS.blk .here).2 (by simp)
  have hset := fun o' => run_setObj (P := c.P) (o' := o') (hS.blk .here).2 (by simp)
  have hsp := aidx_spec q L
  have hput := aput_idx q xv L
  cases haq : aidx L q with
  | none =>
    rw [haq] at hput
    have hr : (execOp a.eval ⟨d, .mapUpdate T x y z, ty, pos, af, g⟩).run c.P w = .ok .skip { w with heap := w.heap.setIfInBounds m (.map (es.push { key := M.key q, val := M.val xv, born := clock }) (clock + 1)) } := by
      simp only [execOp, ev_eval h3 hv, ev_eval h3 hy, ev_eval h3 hz, Instr.mapUpdate, Sem.run_bind, run_underlying ht.h, Result.andThen_ok, hget, run_checkKey hD hfit, run_findKey hD hfit q hi.kv, haq, hset, Sem.run_pure]
    rw [hr]
    refine JS_of h h1 h2 (h3.put hd _) (mp_close (hS.write rfl rfl rfl rfl) ⟨?_, ?_, ?_⟩)
    · rw [hput]; simp [hi.kv, ekv, mkv]
    · simp only [Array.toList_push, List.map_append, List.map_cons, List.map_nil]
      rw [List.nodup_append]
      refine ⟨hi.nd, by simp, fun b hb b' hb' => ?_⟩
      obtain ⟨e, he, rfl⟩ := List.mem_map.1 hb
      rw [List.mem_singleton.1 hb']
      exact Nat.ne_of_lt (hi.lt e he)
    · intro e he
      simp only [Array.toList_push, List.mem_append, List.mem_singleton] at he
      rcases he with he | rfl
      · exact Nat.lt_succ_of_lt (hi.lt e he)
      · exact Nat.lt_succ_self _
  | some j =>
    rw [haq] at hput hsp
    obtain ⟨xo, ho, hj⟩ := hsp
    obtain ⟨e, he, hek, hev⟩ := kv_get hi.kv hj
    have hej : es[j]? = some e := by rw [← Array.getElem?_toList]; exact he
    have hr : (execOp a.eval ⟨d, .mapUpdate T x y z, ty, pos, af, g⟩).run c.P w = .ok .skip { w with heap := w.heap.setIfInBounds m (.map (es.modify j fun e => { e with key := M.key q, val := M.val xv }) clock) } := by
      simp only [execOp, ev_eval h3 hv, ev_eval h3 hy, ev_eval h3 hz, Instr.mapUpdate, Sem.run_bind, run_underlying ht.h, Result.andThen_ok, hget, run_checkKey hD hfit, run_findKey hD hfit q hi.kv, haq, hej, Option.map_some, Option.getD_some, hek, Instr.keyThatStays, M.bits, if_true, hset, Sem.run_pure]
    rw [hr]
    have hmod : (es.modify j fun e => { e with key := M.key q, val := M.val xv }).toList = es.toList.set j { e with key := M.key q, val := M.val xv } := by
      apply List.ext_getElem?
      intro i
      rw [Array.getElem?_toList, Array.getElem?_modify]
      by_cases hij : j = i
      · subst hij
        rw [if_pos rfl, hej, List.getElem?_set_self (by
          have := (List.getElem?_eq_some_iff.1 he).1; exact this)]
        rfl
      · rw [if_neg hij, List.getElem?_set_ne hij, Array.getElem?_toList]
    refine JS_of h h1 h2 (h3.put hd _) (mp_close (hS.write rfl rfl rfl rfl) ⟨?_, ?_, ?_⟩)
    · rw [hput, hmod, List.map_set, hi.kv, List.map_set]; rfl
    · rw [hmod, List.map_set]
      have : (es.toList.map (·.born)).set j e.born = es.toList.map (·.born) := by
        apply List.ext_getElem?
        intro i
        by_cases hij : j = i
        · subst hij
          rw [List.getElem?_set_self (by simpa using (List.getElem?_eq_some_iff.1 he).1), List.getElem?_map, he]; rfl
        · rw [List.getElem?_set_ne hij]
      rw [this]; exact hi.nd
    · intro e' he'
      rw [hmod] at he'
      rcases List.mem_or_eq_of_mem_set he' with h5 | rfl
      · exact hi.lt e' h5
      · exact hi.lt e (List.mem_of_getElem? he)

/-- delete(m, k). -/
theorem mdl {K E : TypeId} {q : κ} [ht : TMap c.P T K E] [hs : SelM Γ m M L Γ'] [hk : KFit c.P K M] {tr : List TypeId} (hv : ev st x = some (.map (some m))) (hy : ev st y = some (M.key q)) (h : JS c ops rs l k (stput d (.tuple #[]) st) (mp M m (adel L q) :: Γ'))
    (hg : gOk ops st ⟨d, .call ⟨.builtin .delete, #[x, y], ⟨T :: tr⟩⟩, ty, pos, af, g⟩ = some true := by rfl) (hd : dOk d c.n = true := by rfl) : JR c ops (⟨⟨d, .call ⟨.builtin .delete, #[x, y], ⟨T :: tr⟩⟩, ty, pos, af, g⟩, false, rs⟩ :: l) k st Γ := by
  intro b cs a w h1 h2 h3 h4
  unfold CR
  simp only [gOk_wanted hg h3, if_true, Bool.false_eq_true, if_false]
  obtain ⟨es, clock, hi, hS⟩ := mp_open (h4.perm hs.h.perm)
  obtain ⟨D, hD, hfit⟩ := hk.h
  have hget := run_getObj (P := c.P) (hS.blk .here).2 (by simp)
  have hset := fun o' => run_setObj (P := c.P) (o' := o') (hS.blk .here).2 (by simp)
  have hdel := adel_idx q L
  cases haq : aidx L q with
  | none =>
    rw [haq] at hdel
    rw [run_builtin (vs := [.map (some m), M.key q]) (by simp [ev_eval h3 hv, ev_eval h3 hy]) (r := .ok (.value (.tuple #[])) { w with heap := w.heap.setIfInBounds m (.map es clock) }) (fun cs => by
      simp [builtin, Builtin.delete_, run_underlying ht.h, hget, run_checkKey hD hfit, run_findKey hD hfit q hi.kv, haq, hset])]
    exact JS_of h h1 h2 (h3.put hd _) (mp_close (hS.write rfl rfl rfl rfl) (by rw [hdel]; exact hi))
  | some j =>
    rw [haq] at hdel
    rw [run_builtin (vs := [.map (some m), M.key q]) (by simp [ev_eval h3 hv, ev_eval h3 hy]) (r := .ok (.value (.tuple #[])) { w with heap := w.heap.setIfInBounds m (.map (es.eraseIdxIfInBounds j) clock) }) (fun cs => by
      simp [builtin, Builtin.delete_, run_underlying ht.h, hget, run_checkKey hD hfit, run_findKey hD hfit q hi.kv, haq, hset])]
    have her : (es.eraseIdxIfInBounds j).toList = es.toList.eraseIdx j := by simp
    refine JS_of h h1 h2 (h3.put hd _) (mp_close (hS.write rfl rfl rfl rfl) ⟨?_, ?_, ?_⟩)
    · rw [hdel, her, map_eraseIdx', hi.kv, ← map_eraseIdx']
    · rw [her, map_eraseIdx']; exact hi.nd.sublist (List.eraseIdx_sublist ..)
    · intro e he
      rw [her] at he
      exact hi.lt e ((List.eraseIdx_sublist ..).mem he)

/-- for k, v := range m: the begin; a step; the one that came up. -/
theorem rgm {K E : TypeId} [ht : TMap c.P T K E] (hv : ev st x = some (.map (some m))) [hs : SelM Γ m M L Γ'] (h : ∀ b, JS c ops rs l k (stput d (.pointer (some ⟨b, 0, none⟩)) st) (mpi M m b L L none :: Γ')) (hg : gOk ops st ⟨d, .range T x, ty, pos, af, g⟩ = some true := by rfl) (hd : dOk d c.n = true := by rfl) :
    JR c ops (⟨⟨d, .range T x, ty, pos, af, g⟩, false, rs⟩ :: l) k st Γ := by
  intro b cs a w h1 h2 h3 h4
  unfold CR
  simp only [gOk_wanted hg h3, if_true, Bool.false_eq_true, if_false]
  obtain ⟨es, clock, hi, hS⟩ := mp_open (h4.perm hs.h.perm)
  have : (execOp a.eval ⟨d, .range T x, ty, pos, af, g⟩).run c.P w = .ok (.value (.pointer (some ⟨w.heap.size, 0, none⟩))) (w.alloc (.mapIter (some m) clock #[] clock)) := by
    simp [execOp, ev_eval h3 hv, Instr.range, run_underlying ht.h, run_getObj (P := c.P) (hS.blk .here).2 (by simp)]
  rw [this]
  refine JS_of (h w.heap.size) h1 h2 (h3.put hd _) (mpi_close (hS.alloc _) hi ?_ trivial)
  rw [← hi.kv]
  congr 1
  exact List.filter_eq_self.2 (by simp)
end
end Go.Proofs.YtaeefjcbmkiiaaaGreatDoor.Sl
/- Maps ranged over; structs built; calls under short names; lists of memory put in order. -/
namespace Go.Proofs.YtaeefjcbmkiiaaaGreatDoor.Sl
open Go Go.RowKit
section
variable {c : Ctx} {k : List Item} {st : St} {Γ : List Assn} {d : Option Tmp} {ty : TypeId} {pos : String} {af : Array Edge} {g : Option (Nat × Bool)} {ops : Array Oper} {rs : List Oper} {l : List Stp} {fl : Bool}
variable {x y z : Operand} {T U : TypeId} {κ α : Type} [iκ : DecidableEq κ] {M : MapT κ α} {m b : Nat} {L left : List (κ × α)} {Γ' : List Assn} {cur : Option (κ × α)}

theorem nodup_filter_push {es : List MapEntry} {seen : Array Nat} {e : MapEntry} (hn : (es.map (·.born)).Nodup) {j : Nat} (hj : (es.filter fun e => !seen.contains e.born)[j]? = some e) :
    (es.filter fun e' => !(seen.push e.born).contains e'.born) = (es.filter fun e => !seen.contains e.born).eraseIdx j := by
  have h1 : (es.filter fun e' => !(seen.push e.born).contains e'.born) = (es.filter fun e => !seen.contains e.born).filter fun e' => !decide (e'.born = e.born) := by
    rw [List.filter_filter]
    apply List.filter_congr
    intro x _
    have : (seen.push e.born).contains x.born = (seen.contains x.born || decide (x.born = e.born)) := by
      rw [Bool.eq_iff_iff]; simp [Array.mem_push]
    rw [this]
    cases seen.contains x.born <;> simp
  rw [h1]
  have hn' : ((es.filter fun e => !seen.contains e.born).map (·.born)).Nodup := hn.sublist (List.filter_sublist.map _)
  generalize (es.filter fun e => !seen.contains e.born) = F at hj hn'
  clear h1 hn
  induction F generalizing j with
  | nil => simp at hj
  | cons y F ih =>
    simp only [List.map_cons, List.nodup_cons] at hn'
    cases j with
    | zero =>
      simp only [List.getElem?_cons_zero, Option.some.injEq] at hj
      subst hj
      simp only [List.filter_cons, decide_true, Bool.not_true, Bool.false_eq_true, if_false, List.eraseIdx_cons_zero]
      apply List.filter_eq_self.2
      intro x hx
      have : x.born ≠ y.born := fun h => hn'.1 (List.mem_map.2 ⟨x, hx, h⟩)
      simp [this]
    | succ j =>
      simp only [List.getElem?_cons_succ] at hj
      have hne : y.born ≠ e.born := fun h => hn'.1 (List.mem_map.2 ⟨e, List.mem_of_getElem? hj, h.symm⟩)
      simp only [List.filter_cons, hne, decide_false, Bool.not_false, if_true, List.eraseIdx_cons_succ]
      rw [ih hj hn'.2]

/-- The next one of a map, in whatever order. -/
theorem nxt (hv : ev st x = some (.pointer (some ⟨b, 0, none⟩))) [hs : SelI Γ b M m L left cur Γ'] (h0 : left = [] → JS c ops rs l k (stput d (.tuple #[.bool false]) st) (mpi M m b L left cur :: Γ'))
    (h1 : ∀ p l1 l2, left = l1 ++ p :: l2 → JS c ops rs l k (stput d (.tuple #[.bool true, M.key p.1, M.val p.2]) st) (mpi M m b L (l1 ++ l2) (some p) :: Γ')) (hg : gOk ops st ⟨d, .next x false, ty, pos, af, g⟩ = some true := by rfl) (hd : dOk d c.n = true := by rfl) :
    JR c ops (⟨⟨d, .next x false, ty, pos, af, g⟩, false, rs⟩ :: l) k st Γ := by
  intro bf cs a w g1 g2 g3 g4
  unfold CR
  simp only [gOk_wanted hg g3, if_true, Bool.false_eq_true, if_false]
  obtain ⟨es, clock, seen, hne, hi, hl, hc, hS⟩ := mpi_open (g4.perm hs.h.perm)
  have hgb := run_getObj (P := c.P) (hS.blk .here).2 (by simp)
  have hgm := run_getObj (P := c.P) (hS.tail.blk .here).2 (by simp)
  have hset := fun o' => run_setObj (P := c.P) (o' := o') (hS.blk .here).2 (by simp)
  have hbad : (!seen.isEmpty && !es.isEmpty && es.all (fun (e : MapEntry) => decide (e.born ≥ clock))) = false := by
    cases hes : es.toList with
    | nil =>
      have : es = #[] := by rw [← Array.toList_inj, hes]
      simp [this]
    | cons e r =>
      have he : e ∈ es.toList := by rw [hes]; exact List.mem_cons_self ..
      have hlt := hi.lt e he
      have : es.all (fun (e : MapEntry) => decide (e.born ≥ clock)) = false := by
        rw [Bool.eq_false_iff]
        intro hall
        have := Array.all_eq_true'.1 hall e (by simpa using he)
        simp at this; omega
      rw [this, Bool.and_false]
  have hleft : (es.filter fun (e : MapEntry) => !seen.contains e.born).toList = es.toList.filter fun (e : MapEntry) => !seen.contains e.born := by simp
  have hold : (es.filter fun (e : MapEntry) => !seen.contains e.born).filter (fun (e : MapEntry) => decide (e.born < clock)) = es.filter fun (e : MapEntry) => !seen.contains e.born := by
    rw [← Array.toList_inj, Array.toList_filter, hleft]
    apply List.filter_eq_self.2
    intro e he
    simpa using hi.lt e (List.mem_filter.1 he).1
  have hnew : (es.filter fun (e : MapEntry) => !seen.contains e.born).filter (fun (e : MapEntry) => decide (e.born ≥ clock)) = #[] := by
    rw [← Array.toList_inj, Array.toList_filter, hleft]
    apply List.filter_eq_nil_iff.2
    intro e he
    have := hi.lt e (List.mem_filter.1 he).1
    simp; omega
  cases left with
  | nil =>
    have he : (es.filter fun (e : MapEntry) => !seen.contains e.born) = #[] := by
      rw [← Array.toList_inj, hleft]
      simpa using hl
    have hr : (execOp a.eval ⟨d, .next x false, ty, pos, af, g⟩).run c.P w = .ok (.value (.tuple #[.bool false])) w := by
      simp only [execOp, ev_eval g3 hv, Instr.next, Sem.run_bind, hgb, Result.andThen_ok, hgm, hbad, Bool.false_eq_true, if_false, hold, hnew, he]
      simp [Question.forced]
    rw [hr]
    exact JS_of (h0 rfl) g1 g2 (g3.put hd _) (mpi_close hS hi hl hc)
  | cons p0 left' =>
    have hlen : (es.filter fun (e : MapEntry) => !seen.contains e.born).size = left'.length + 1 := by
      have := congrArg List.length hl
      simp only [List.length_map, List.length_cons] at this
      rw [← this, ← hleft, Array.length_toList]
    have hne0 : (es.filter fun (e : MapEntry) => !seen.contains e.born).isEmpty = false := by
      rw [Array.isEmpty_eq_false_iff]; intro h; rw [h] at hlen; simp at hlen
    -- which one
    obtain ⟨j, w1, hj, hch, hw1, hw2, hw3, hw4⟩ : ∃ j w1, j < left'.length + 1 ∧ (choose (.mapNext (left'.length + 1))).run c.P w = .ok j w1 ∧ w1.heap = w.heap ∧ w1.os = w.os ∧ w1.tape = w.tape ∧ w1.output = w.output := by
      rw [run_choose]
      by_cases hf : (Question.mapNext (left'.length + 1)).forced = true
      · rw [if_pos hf]; exact ⟨0, w, by omega, rfl, rfl, rfl, rfl, rfl⟩
      · rw [if_neg hf]; exact ⟨_, _, Nat.mod_lt _ (by omega), rfl, rfl, rfl, rfl, rfl⟩
    have hjl : j < (es.toList.filter fun (e : MapEntry) => !seen.contains e.born).length := by rw [← hleft]; simp only [Array.length_toList]; rw [hlen]; exact hj
    obtain ⟨e, he⟩ : ∃ e, (es.toList.filter fun (e : MapEntry) => !seen.contains e.born)[j]? = some e := ⟨_, List.getElem?_eq_getElem hjl⟩
    have hmem := List.mem_filter.1 (List.mem_of_getElem? he)
    obtain ⟨p, hp⟩ : ∃ p, (p0 :: left')[j]? = some p := ⟨_, List.getElem?_eq_getElem (by simpa using hj)⟩
    have hkv : ekv e = mkv M p := by
      have := congrArg (fun l => l[j]?) hl
      simp only [List.getElem?_map, he, hp, Option.map_some, Option.some.injEq] at this
      exact this
    have hr : (execOp a.eval ⟨d, .next x false, ty, pos, af, g⟩).run c.P w = .ok (.value (.tuple #[.bool true, M.key p.1, M.val p.2])) { w1 with heap := w1.heap.setIfInBounds b (.mapIter (some m) clock (seen.push e.born) clock) } := by
      have hset1 := run_setObj (P := c.P) (w := w1) (r := b) (o := .mapIter (some m) clock seen clock) (o' := .mapIter (some m) clock (seen.push e.born) clock) (by rw [hw1]; exact (hS.blk .here).2) (by simp)
      have hszF : ∀ Fl : Array MapEntry, Fl.size = left'.length + 1 → ((#[] : Array (Option MapEntry)) ++ (Fl ++ #[]).map some).size = left'.length + 1 := fun Fl h => by simp [h]
      have hgetF : ∀ Fl : Array MapEntry, Fl[j]? = some e → ((#[] : Array (Option MapEntry)) ++ (Fl ++ #[]).map some)[j]? = some (some e) := fun Fl h => by simp [h]
      have hsz := hszF _ hlen
      have hget := hgetF (es.filter fun (e : MapEntry) => !seen.contains e.born) (by rw [← Array.getElem?_toList, hleft]; exact he)
      simp only [execOp, ev_eval g3 hv, Instr.next, Sem.run_bind, hgb, Result.andThen_ok, hgm, hbad, Bool.false_eq_true, if_false, hold, hnew, hne0, hsz, hch, hget, hset1, Sem.run_pure]
      have h1 : e.key = M.key p.1 := congrArg Prod.fst hkv
      have h2 : e.val = M.val p.2 := congrArg Prod.snd hkv
      rw [h1, h2]
    rw [hr]
    have hsplit : p0 :: left' = (p0 :: left').take j ++ p :: (p0 :: left').drop (j + 1) := by
      have hlt : j < (p0 :: left').length := by simpa using hj
      rw [List.getElem?_eq_getElem hlt] at hp
      cases hp
      rw [List.getElem_cons_drop, List.take_append_drop]
    refine JS_of (h1 p _ _ hsplit) g1 g2 (g3.put hd _) (mpi_close (hS.write (by rw [hw1]) hw2 hw3 hw4) hi ?_ ?_)
    · rw [nodup_filter_push hi.nd he, map_eraseIdx', hl, ← map_eraseIdx', List.eraseIdx_eq_take_drop_succ]
    · exact ⟨e, hmem.1, by simp, hkv⟩
theorem ent {p : κ × α} (hv : ev st x = some (.pointer (some ⟨b, 0, none⟩))) [hs : SelI Γ b M m L left (some p) Γ'] (h : JR c ops l k (stput d (.tuple #[M.key p.1, M.val p.2]) st) Γ) (hg : gOk ops st ⟨d, .entry x, ty, pos, af, g⟩ = some true := by rfl) (hd : dOk d c.n = true := by rfl) :
    JR c ops (⟨⟨d, .entry x, ty, pos, af, g⟩, fl, []⟩ :: l) k st Γ :=
  ro h (fun a w ha hS0 => by
    obtain ⟨es, clock, seen, hne, hi, hl, ⟨e, he, hb, hkv⟩, hS⟩ := mpi_open (hS0.perm hs.h.perm)
    have hgb := run_getObj (P := c.P) (hS.blk .here).2 (by simp)
    have hgm := run_getObj (P := c.P) (hS.tail.blk .here).2 (by simp)
    have hfind : es.find? (fun e' => e'.born == e.born) = some e := by
      rw [← Array.find?_toList]
      obtain ⟨l1, l2, h2⟩ := List.append_of_mem he
      have hnd := hi.nd
      rw [h2, List.map_append, List.nodup_append] at hnd
      rw [h2, List.find?_append]
      have : l1.find? (fun e' => e'.born == e.born) = none := by
        rw [List.find?_eq_none]
        intro y hy hye
        simp at hye
        exact hnd.2.2 y.born (List.mem_map.2 ⟨y, hy, rfl⟩) e.born (by simp) hye
      rw [this]; simp
    have h1 : e.key = M.key p.1 := congrArg Prod.fst hkv
    have h2 : e.val = M.val p.2 := congrArg Prod.snd hkv
    simp [execOp, ev_eval ha hv, Instr.entry, hgb, hgm, hb, hfind, h1, h2]) hg hd
end

/-! ### structs built -/
/-- The cells of a value. -/
inductive CellsIs : Value → List Value → Prop
  | agg {l : List Value} : CellsIs (.agg ⟨l⟩) l
  | int {k : IntKind} {n : Int} : CellsIs (.int k n) [.int k n]
  | bool {b : Bool} : CellsIs (.bool b) [.bool b]
  | str {s : ByteArray} : CellsIs (.string s) [.string s]
  | ptr {p : Option Addr} : CellsIs (.pointer p) [.pointer p]
  | slice {p : Option Addr} {n m : Nat} : CellsIs (.slice p n m) [.slice p n m]
  | map {p : Option Nat} : CellsIs (.map p) [.map p]
theorem CellsIs.eq {u : Value} {cs : List Value} (h : CellsIs u cs) : u.cells = ⟨cs⟩ := by cases h <;> rfl
inductive FillS (st : St) (pl : List (Nat × Nat)) : List Value → List (Nat × Operand) → List Value → Prop
  | nil {z : List Value} : FillS st pl z [] z
  | cons {z z' z'' : List Value} {i off n : Nat} {x : Operand} {u : Value} {cs : List Value} {r : List (Nat × Operand)} : ev st x = some u → pl[i]? = some (off, n) → CellsIs u cs → cs.length = n → PutN z off cs z' → FillS st pl z' r z'' → FillS st pl z ((i, x) :: r) z''
section
variable {c : Ctx} {k : List Item} {st : St} {Γ : List Assn} {d : Option Tmp} {ty : TypeId} {pos : String} {af : Array Edge} {g : Option (Nat × Bool)} {ops : Array Oper} {rs : List Oper} {l : List Stp} {fl : Bool}
variable {x y z : Operand} {T U : TypeId}
theorem putN_eq {l cs l' : List Value} {o : Nat} (h : PutN l o cs l') : l' = l.take o ++ cs ++ l.drop (o + cs.length) := by
  induction h with
  | nil => simp
  | put _ ih => simp at ih ⊢; rw [ih]
  | @skip x v l vs l' n _ ih =>
    rw [ih, show n + 1 + (v :: vs).length = n + (v :: vs).length + 1 by omega]
    simp
theorem fill_of {n : Nat} {a : Act} (ha : Agree n st a) {pl : List (Nat × Nat)} (place : Nat → Option (Nat × Nat)) (hpl : ∀ i, place i = pl[i]?) {zl r zl'} (h : FillS st pl zl r zl') : Instr.fill place ⟨zl⟩ (r.map fun p => (p.1, a.eval p.2)) = some ⟨zl'⟩ := by
  induction h with
  | nil => rfl
  | @cons zl z' z'' i off n x u cs r h1 h2 h3 h4 h5 _ ih =>
    have hg := h5.get
    have h3 := h3.eq
    simp only [List.map_cons, Instr.fill, hpl, h2, ev_eval ha h1, h3]
    have hcz : (⟨cs⟩ : Array Value).size = n := h4
    rw [if_neg (by simp [hcz]; omega)]
    have hf := foldl_put cs 0 off ⟨zl⟩ (by simp; omega)
    have hz : (⟨cs⟩ : Array Value).zipIdx.foldl (fun (a : Array Value) (p : Value × Nat) => a.setIfInBounds (off + p.2) p.1) ⟨zl⟩ = ⟨z'⟩ := by
      rw [← Array.foldl_toList, ← Array.toList_inj, show (⟨cs⟩ : Array Value).zipIdx.toList = cs.zipIdx from Array.toList_zipIdx .., hf, putN_eq h5]
      simp
    rw [show (fun cs (x : Value × Nat) => match x with | (c, j) => cs.setIfInBounds (off + j) c) = fun (a : Array Value) (p : Value × Nat) => a.setIfInBounds (off + p.2) p.1 from rfl, hz]
    exact ih
theorem bld {parts : List (Nat × Operand)} {pl : List (Nat × Nat)} {zv : Value} {zl zl' : List Value} [ht : TPlaces c.P T pl] [hZ : TZero c.P T zv] (h : JR c ops l k (stput d (.agg ⟨zl'⟩) st) Γ) (hz0 : zv = .agg ⟨zl⟩ := by rfl)
    (hp : FillS st pl zl parts zl' := by (repeat (first | exact FillS.nil | (apply FillS.cons; rfl; rfl; constructor; rfl; (focus repeat constructor))))) (hg : gOk ops st ⟨d, .build T ⟨parts⟩, ty, pos, af, g⟩ = some true := by rfl) (hd : dOk d c.n = true := by rfl) :
    JR c ops (⟨⟨d, .build T ⟨parts⟩, ty, pos, af, g⟩, fl, []⟩ :: l) k st Γ :=
  ro h (fun a w ha hS => by
    have hz : zv.cells = ⟨zl⟩ := by rw [hz0]; rfl
    obtain ⟨fs, h1, h2, h3⟩ := ht.h
    have hm : (fs.mapM fun f => do pure (f.offset, ← sizeOf f.type) : Sem (Array (Nat × Nat))).run c.P w = .ok ⟨pl⟩ w := by
      have key : ∀ (l : List Field), l.all (fun f => (szOf c.P f.type).isSome) = true → (l.mapM fun f => do pure (f.offset, ← sizeOf f.type) : Sem (List (Nat × Nat))).run c.P w = .ok (l.map fun f => (f.offset, (szOf c.P f.type).getD 0)) w := by
        intro l
        induction l with
        | nil => intro _; rfl
        | cons f l ih =>
          intro hl
          simp only [List.all_cons, Bool.and_eq_true] at hl
          obtain ⟨s, hs⟩ := Option.isSome_iff_exists.1 hl.1
          rw [List.mapM_cons, Sem.run_bind]
          simp only [Sem.run_bind, run_sizeOf hs, Result.andThen_ok, Sem.run_pure, ih hl.2, List.map_cons, hs, Option.getD_some]
      obtain ⟨fl⟩ := fs
      rw [show (⟨fl⟩ : Array Field) = fl.toArray from rfl, List.mapM_toArray, Sem.run_map, key fl h3]
      simp only [Result.andThen_ok]
      rw [← h2]
    have hmap : (((⟨parts⟩ : Array (Nat × Operand)).map fun (p : Nat × Operand) => (p.1, a.eval p.2)).toList) = parts.map fun p => (p.1, a.eval p.2) := by simp
    simp only [execOp, Instr.build, Sem.run_bind, run_zeroValue hZ.z, Result.andThen_ok, run_underlying h1, hm, hz]
    rw [show ((⟨parts⟩ : Array (Nat × Operand)).map fun x => match x with | (i, x) => (i, a.eval x)).toList = parts.map fun p => (p.1, a.eval p.2) from hmap, fill_of ha (fun i => (⟨pl⟩ : Array (Nat × Nat))[i]?) (fun i => by simp) hp]
    rfl) hg hd

/-! ### calls -/
/-- A call by its contract, of a function by its name. -/
theorem cl {xs : List Operand} {ats : Array TypeId} {f : FuncId} {vs : List Value} {Pre R : List Assn} {Q : Value → List Assn → Prop} [IsFn c.P f] (ht : Tr c.P f vs Pre Q) (h : ∀ v Γ', Q v Γ' → JS c ops rs l k (stput d v st) (Γ' ++ R))
    (hvs : Evs st xs vs := by (repeat (first | exact Evs.nil | refine Evs.cons rfl ?_))) (hs : Split Γ Pre R := by (repeat constructor)) (hg : gOk ops st ⟨d, .call ⟨.value (.func f), ⟨xs⟩, ats⟩, ty, pos, af, g⟩ = some true := by rfl) (hd : dOk d c.n = true := by rfl) :
    JR c ops (⟨⟨d, .call ⟨.value (.func f), ⟨xs⟩, ats⟩, ty, pos, af, g⟩, false, rs⟩ :: l) k st Γ :=
  JR_call (f := f) (first := #[]) (captured := #[]) hg hd rfl hvs (by simpa using ht) hs h
/-- .. of a function value. -/
theorem clv {xs : List Operand} {ats : Array TypeId} {f : FuncId} {first captured : Array Value} {vs : List Value} {Pre R : List Assn} {Q : Value → List Assn → Prop} [IsFn c.P f] (hx : ev st x = some (.func (.func f) first captured)) (ht : Tr c.P f (first.toList ++ vs ++ captured.toList) Pre Q) (h : ∀ v Γ', Q v Γ' → JS c ops rs l k (stput d v st) (Γ' ++ R))
    (hvs : Evs st xs vs := by (repeat (first | exact Evs.nil | refine Evs.cons rfl ?_))) (hs : Split Γ Pre R := by (repeat constructor)) (hg : gOk ops st ⟨d, .call ⟨.value x, ⟨xs⟩, ats⟩, ty, pos, af, g⟩ = some true := by rfl) (hd : dOk d c.n = true := by rfl) :
    JR c ops (⟨⟨d, .call ⟨.value x, ⟨xs⟩, ats⟩, ty, pos, af, g⟩, false, rs⟩ :: l) k st Γ :=
  JR_call hg hd hx hvs ht hs h
/-- A list of memory, spelled out. -/
theorem n0 {R : List Assn} (h : JS c ops rs l k st R) : JS c ops rs l k st ([] ++ R) := h
theorem n1 {A : Assn} {R : List Assn} (h : JS c ops rs l k st (A :: R)) : JS c ops rs l k st ([A] ++ R) := h
theorem n2 {A B : Assn} {R : List Assn} (h : JS c ops rs l k st (A :: B :: R)) : JS c ops rs l k st ([A, B] ++ R) := h
theorem n3 {A B C : Assn} {R : List Assn} (h : JS c ops rs l k st (A :: B :: C :: R)) : JS c ops rs l k st ([A, B, C] ++ R) := h
theorem n4 {A B C D : Assn} {R : List Assn} (h : JS c ops rs l k st (A :: B :: C :: D :: R)) : JS c ops rs l k st ([A, B, C, D] ++ R) := h
/-- The return, what is said of it and of memory to be shown. -/
theorem rt {rv : List ResultVar} {vs : List Value} (h : ∃ Γ', c.Q (tupleOf vs) Γ' ∧ ∃ R, Split Γ Γ' R) (hr : c.fn.results = ⟨rv⟩ := by rfl) (hl : ResL c.P st (Sat c.B c.F Γ) rv vs := by (repeat constructor)) : J c (.code .ret :: k) st Γ :=
  let ⟨_, hQ, _, hs⟩ := h; J_ret hr hl hQ hs
theorem rte {rv : List ResultVar} {vs : List Value} (h : ∃ Γ', c.Q (tupleOf vs) Γ' ∧ ∃ R, Split Γ Γ' R) (hr : c.fn.results = ⟨rv⟩ := by rfl) (hl : ResL c.P st (Sat c.B c.F Γ) rv vs := by (repeat constructor)) : J c [] st Γ :=
  let ⟨_, hQ, _, hs⟩ := h; J_end hr hl hQ hs
/-- A result that lies in memory. -/
theorem ResL.agg {P : Program} {B : World} {F : Assn} {t T b o n : Nat} {cl us : List Value} {E : TypeId} {fz : Nat × Nat} {rv : List ResultVar} {vs : List Value} [ht : TAgg P T n] (hl : look st t = some (.pointer (some ⟨b, o, none⟩))) [hg : InG Γ b (.cells ⟨cl⟩ E fz)] (hn : GetN cl o n us) (hr : ResL P st (Sat B F Γ) rv vs) :
    ResL P st (Sat B F Γ) (.cell t T :: rv) (.agg ⟨us⟩ :: vs) := by
  refine .cell hl (fun w hS => ?_) hr
  obtain ⟨_, hs⟩ := hg.h
  obtain ⟨h1, h2⟩ := hn.get
  exact run_loadVar_agg ht.a ht.s h1 fun i hi => by
    have hi' : i < us.length := by omega
    rw [List.getElem?_eq_getElem hi']
    exact cell_of (hS.blk hs).2 (by rw [h2 i hi, List.getElem?_eq_getElem hi'])
end
end Go.Proofs.YtaeefjcbmkiiaaaGreatDoor.Sl
/- Numbers' other operations; pointers held against nil; bytes: a string appended, a string made of bytes; memory put in another shape. -/
namespace Go.Proofs.YtaeefjcbmkiiaaaGreatDoor.Sl
open Go Go.RowKit
section
variable {c : Ctx} {k : List Item} {st : St} {Γ : List Assn} {d : Option Tmp} {ty : TypeId} {pos : String} {af : Array Edge} {g : Option (Nat × Bool)} {ops : Array Oper} {rs : List Oper} {l : List Stp} {fl : Bool}
variable {x y : Operand} {T U S : TypeId} {i j : IntKind} {m n r : Int}

/-! ### memory in another shape -/
theorem JR_sat {Γ' : List Assn} (h : JR c ops l k st Γ') (hs : ∀ w, Sat c.B c.F Γ w → Sat c.B c.F Γ' w) : JR c ops l k st Γ :=
  fun b cs a w h1 h2 h3 h4 => h b cs a w h1 h2 h3 (hs w h4)
theorem J_sat {Γ' : List Assn} (h : J c k st Γ') (hs : ∀ w, Sat c.B c.F Γ w → Sat c.B c.F Γ' w) : J c k st Γ :=
  fun b cs a w h1 h2 h3 h4 => h b cs a w h1 h2 h3 (hs w h4)
theorem JS_sat {Γ' : List Assn} (h : JS c ops rs l k st Γ') (hs : ∀ w, Sat c.B c.F Γ w → Sat c.B c.F Γ' w) : JS c ops rs l k st Γ :=
  fun b cs a w h1 h2 h3 h4 => h b cs a w h1 h2 h3 (hs w h4)
/-- What memory says beyond all doubt. -/
theorem J_fact {p : Prop} (hp : ∀ w, Sat c.B c.F Γ w → p) (h : p → J c k st Γ) : J c k st Γ :=
  fun b cs a w h1 h2 h3 h4 => h (hp w h4) b cs a w h1 h2 h3 h4
theorem JR_fact {p : Prop} (hp : ∀ w, Sat c.B c.F Γ w → p) (h : p → JR c ops l k st Γ) : JR c ops l k st Γ :=
  fun b cs a w h1 h2 h3 h4 => h (hp w h4) b cs a w h1 h2 h3 h4
theorem JS_fact {p : Prop} (hp : ∀ w, Sat c.B c.F Γ w → p) (h : p → JS c ops rs l k st Γ) : JS c ops rs l k st Γ :=
  fun b cs a w h1 h2 h3 h4 => h (hp w h4) b cs a w h1 h2 h3 h4
theorem J_st {st' : St} (h : J c k st' Γ) (hs : Sub st st') : J c k st Γ := fun b cs a w h1 h2 h3 h4 => h b cs a w h1 h2 ⟨h3.1, h3.2.1, fun t v hv => h3.2.2 t v (hs t v hv)⟩ h4
theorem Tr.pre {P : Program} {f : FuncId} {args : List Value} {Pre Pre' : List Assn} {Q : Value → List Assn → Prop} (h : Tr P f args Pre' Q) (hs : ∀ B F w, Sat B F Pre w → Sat B F Pre' w) : Tr P f args Pre Q :=
  fun B F w hS => h B F w (hs B F w hS)
theorem Tr.fact {P : Program} {f : FuncId} {args : List Value} {Pre : List Assn} {Q : Value → List Assn → Prop} {p : Prop} (h : p → Tr P f args Pre Q) (hp : ∀ B F w, Sat B F Pre w → p) : Tr P f args Pre Q :=
  fun B F w hS => h (hp B F w hS) B F w hS
theorem Tr.post {P : Program} {f : FuncId} {args : List Value} {Pre : List Assn} {Q Q' : Value → List Assn → Prop} (h : Tr P f args Pre Q) (hq : ∀ v Γ, Q v Γ → ∀ B F w, Sat B F Γ w → ∃ Γ', Q' v Γ' ∧ Sat B F Γ' w) : Tr P f args Pre Q' :=
  fun B F w hS => (h B F w hS).mono fun _ _ ⟨v, Γ', he, hQ, hS'⟩ => let ⟨Γ2, hq', hs⟩ := hq v Γ' hQ B F _ hS'; ⟨v, Γ2, he, hq', hs⟩
/-- A loop; its next round. -/
theorem lp {α : Type} {body : Code} {R : List Assn} (S : α → St) (G : α → List Assn) (pr : α → Prop) (μ : α → Nat) (x0 : α) (round : ∀ x, pr x → (∀ x', pr x' → μ x' < μ x → J c (.inLoop body :: k) (S x') (G x')) → J c (.code body :: .inLoop body :: k) (S x) (G x))
    (h0 : pr x0) (hs : Sub st (S x0) := by (repeat (first | exact Sub.nil | refine Sub.cons rfl ?_))) (hp : Split Γ (G x0) R := by (repeat constructor)) : J c (.code (.loop body) :: k) st Γ := J_loop S G pr μ x0 h0 hs hp round
theorem ag {st' : St} {Γ' R : List Assn} (h : J c k st' Γ') (hs : Sub st st' := by (repeat (first | exact Sub.nil | refine Sub.cons rfl ?_))) (hp : Split Γ Γ' R := by (repeat constructor)) : J c k st Γ := J_weaken h hs hp
theorem Tr.intro {P : Program} {f : FuncId} {args : List Value} {Pre : List Assn} {Q : Value → List Assn → Prop} (h : ∀ B F w, Sat B F Pre w → Calls P f args.toArray w (RQ B F Q)) : Tr P f args Pre Q := h
theorem Tr.app {P : Program} {f : FuncId} {args : List Value} {Pre : List Assn} {Q : Value → List Assn → Prop} (h : Tr P f args Pre Q) (B : World) (F : Assn) (w : World) (hS : Sat B F Pre w) : Calls P f args.toArray w (RQ B F Q) := h B F w hS
theorem Tr.framed {P : Program} {f : FuncId} {args : List Value} {C : Assn} {p : Value → Prop} (h : Tr P f args [] fun v Γ => p v ∧ Γ = []) : Tr P f args [C] fun v Γ => p v ∧ Γ = [C] :=
  fun B F w hS => (h B (all [F, C]) w (Sat.frame (As := []) hS)).mono fun _ _ ⟨v, Γ', he, ⟨hp, hG⟩, hS'⟩ => ⟨v, [C], he, ⟨hp, rfl⟩, by subst hG; exact Sat.unframe (As := []) hS'⟩
theorem Tr.open_all {P : Program} {f : FuncId} {args : List Value} {Δ R : List Assn} {Q : Value → List Assn → Prop} (h : Tr P f args (Δ ++ R) Q) : Tr P f args (all Δ :: R) Q := h.pre fun B F w hS => hS.all_open
theorem Tr.shut_all {P : Program} {f : FuncId} {args : List Value} {Δ R Pre : List Assn} {p : Value → Prop} (h : Tr P f args Pre fun v Γ => p v ∧ Γ = Δ ++ R) : Tr P f args Pre fun v Γ => p v ∧ Γ = all Δ :: R :=
  h.post fun v Γ ⟨hp, hG⟩ B F w hS => ⟨_, ⟨hp, rfl⟩, by subst hG; exact hS.all_close⟩
theorem Tr.shut_all' {P : Program} {f : FuncId} {args : List Value} {Δ R Pre : List Assn} (h : Tr P f args Pre fun v Γ => Γ = Δ ++ R) : Tr P f args Pre fun v Γ => Γ = all Δ :: R :=
  h.post fun v Γ hG B F w hS => ⟨_, rfl, by subst hG; exact hS.all_close⟩
/-- A slice that is owned: nil, or a row. -/
theorem sl_cases {α : Type} {e : EncT α} {v : Value} {L : List α} {B w : World} {F : Assn} {E : TypeId} (hS : Sat B F (sl E e v L :: Γ) w) : (v = .slice none 0 0 ∧ L = []) ∨ ∃ g cap, v = .slice (some ⟨g, 0, none⟩) L.length cap ∧ L.length ≤ cap ∧ cap ≤ maxLen := by
  obtain ⟨h1, hm, hA⟩ := hS.peek .here
  rcases hA with hA | ⟨g, cap, cur, e1, e2, e3, e4, e5, e6⟩
  · exact .inl hA
  · exact .inr ⟨g, cap, e1, e3, e4⟩

/-! ### temporaries kept plain -/
inductive GetAt : List Value → Nat → Value → Prop
  | zero {v : Value} {l : List Value} : GetAt (v :: l) 0 v
  | succ {v u : Value} {l : List Value} {i : Nat} : GetAt l i v → GetAt (u :: l) (i + 1) v
theorem GetAt.get {l : List Value} {i : Nat} {v : Value} (h : GetAt l i v) : (⟨l⟩ : Array Value)[i]? = some v := by
  induction h with
  | zero => simp
  | succ _ ih => simpa using ih
theorem xt2 {i : Nat} {us : List Value} {v : Value} (h : JR c ops l k (stput d v st) Γ) (hv : ev st x = some (.tuple ⟨us⟩) := by rfl) (hi : GetAt us i v := by repeat constructor) (hg : gOk ops st ⟨d, .extract x i, ty, pos, af, g⟩ = some true := by rfl) (hd : dOk d c.n = true := by rfl) :
    JR c ops (⟨⟨d, .extract x i, ty, pos, af, g⟩, fl, []⟩ :: l) k st Γ := ro h (RO_extract hv hi.get) hg hd
theorem sk2 {o : Op} (h : JR c ops l k (stput d undef st) Γ) (hg : gOk ops st ⟨d, o, ty, pos, af, g⟩ = some false := by rfl) (hd : dOk d c.n = true := by rfl) : JR c ops (⟨⟨d, o, ty, pos, af, g⟩, fl, rs⟩ :: l) k st Γ := JR_skip hg hd h
def evl (st : St) : List Operand → Option (List Value)
  | [] => some []
  | x :: xs => match ev st x, evl st xs with | some v, some vs => some (v :: vs) | _, _ => none
theorem evl_evs : ∀ {xs : List Operand} {us : List Value}, evl st xs = some us → Evs st xs us
  | [], us, h => by cases h; exact .nil
  | x :: xs, us, h => by
    unfold evl at h
    cases h1 : ev st x with
    | none => rw [h1] at h; cases h
    | some v =>
      cases h2 : evl st xs with
      | none => rw [h1, h2] at h; cases h
      | some vs => rw [h1, h2] at h; cases h; exact .cons h1 (evl_evs h2)
/-- A call of a function value, its arguments put together. -/
theorem cl3 {xs : List Operand} {ats : Array TypeId} {f : FuncId} {first captured : Array Value} {us args : List Value} {Pre R : List Assn} {Q : Value → List Assn → Prop} [IsFn c.P f] (hx : ev st x = some (.func (.func f) first captured)) (ht : Tr c.P f args Pre Q) (h : ∀ v Γ', Q v Γ' → JS c ops rs l k (stput d v st) (Γ' ++ R))
    (hvs : evl st xs = some us := by rfl) (ha : args = first.toList ++ us ++ captured.toList := by rfl) (hs : Split Γ Pre R := by (repeat constructor)) (hg : gOk ops st ⟨d, .call ⟨.value x, ⟨xs⟩, ats⟩, ty, pos, af, g⟩ = some true := by rfl) (hd : dOk d c.n = true := by rfl) :
    JR c ops (⟨⟨d, .call ⟨.value x, ⟨xs⟩, ats⟩, ty, pos, af, g⟩, false, rs⟩ :: l) k st Γ :=
  JR_call hg hd hx (evl_evs hvs) (ha ▸ ht) hs h
theorem mf2 {fn : Fn} {first captured : List Operand} {fs cs : List Value} (h : JR c ops l k (stput d (.func fn ⟨fs⟩ ⟨cs⟩) st) Γ) (h1 : evl st first = some fs := by rfl) (h2 : evl st captured = some cs := by rfl) (hg : gOk ops st ⟨d, .makeFunc fn ⟨first⟩ ⟨captured⟩, ty, pos, af, g⟩ = some true := by rfl) (hd : dOk d c.n = true := by rfl) :
    JR c ops (⟨⟨d, .makeFunc fn ⟨first⟩ ⟨captured⟩, ty, pos, af, g⟩, fl, []⟩ :: l) k st Γ := mf h (evl_evs h1) (evl_evs h2) hg hd
theorem RO_ixa {α : Type} {e : EncT α} {v : Value} {L : List α} {E bb : Nat} [ht : TSlice c.P T E] (hv : ev st x = some v) (hy : ev st y = some (.int i n)) [hr : RdG Γ v e L] [hz : ESize c.P E e.sz bb] (hb : 0 ≤ n ∧ n < L.length) : RO c st Γ ⟨d, .indexAddr T x y, ty, pos, af, g⟩ (.pointer (some ⟨vb v, el (vo v) n.toNat e.sz 0, none⟩)) := fun a w ha hS => by
  obtain ⟨cap, E', fz, cur, h1, h2, h3⟩ := (hr.h _ _ _ hS).at (i := n.toNat) (by omega)
  have hev := ev_eval ha hv
  rw [h1] at hev
  simp only [execOp, hev, ev_eval ha hy, Instr.indexAt, asIntOf, Sem.run_bind, Sem.run_pure, Result.andThen_ok, run_underlying ht.h]
  simp [hb, run_sizeOf (szOf_of hz.h), add_none, el]
theorem RO_fe {b o q sz jj off fi : Nat} [hf : FOff c.P T fi off] (hv : ev st x = some (.pointer (some ⟨b, el o q sz jj, none⟩))) : RO c st Γ ⟨d, .fieldAddr T x fi, ty, pos, af, g⟩ (.pointer (some ⟨b, el o q sz (jj + off), none⟩)) := by
  have := RO_fieldAddr (c := c) (Γ := Γ) (d := d) (ty := ty) (pos := pos) (af := af) (g := g) (T := T) (i := fi) hv
  rwa [show el o q sz jj + off = el o q sz (jj + off) by unfold el; omega] at this
theorem RO_lde {α : Type} {e : EncT α} {v : Value} {L : List α} {q jj : Nat} {u : Value} [ht : TSc c.P T] (hv : ev st x = some (.pointer (some ⟨vb v, el (vo v) q e.sz jj, none⟩))) [hr : RdG Γ v e L] (hb : q < L.length) (hl : (e.enc (L.getD q e.dflt))[jj]? = some u) : RO c st Γ ⟨d, .load T x, ty, pos, af, g⟩ u := fun a w ha hS => by
  obtain ⟨cap, E', fz, cur, h1, h2, h3⟩ := (hr.h _ _ _ hS).at hb
  have hj : jj < e.sz := by
    rw [← e.len (L.getD q e.dflt)]
    rcases Nat.lt_or_ge jj (e.enc (L.getD q e.dflt)).length with h | h
    · exact h
    · rw [List.getElem?_eq_none h] at hl; cases hl
  simp [execOp, ev_eval ha hv, Instr.loadAt, Instr.sureAddr, run_loadVar_sc ht.a (cell_of (l := cur.toList) h2 (by rw [h3 jj hj]; exact hl))]
theorem RO_slih {α : Type} {e : EncT α} {v : Value} {L : List α} {hi : Operand} {E bb : Nat} [ht : TSlice c.P T E] (hv : ev st x = some v) [hr : RdG Γ v e L] [hz : ESize c.P E e.sz bb] (hh : ev st hi = some (.int j n)) (hb : 0 ≤ n ∧ n ≤ L.length) : RO c st Γ ⟨d, .slice T x none (some hi) none, ty, pos, af, g⟩ (vw v 0 n.toNat e.sz) :=
  RO_slice (sz := e.sz) (lo := none) hv rfl ⟨j, by rw [hh, Int.toNat_of_nonneg hb.1]⟩ fun w hS => by
    obtain ⟨p, M, h1, h2⟩ := (hr.h _ _ _ hS).cap
    exact ⟨p, _, M, h1, h2, by omega, by omega⟩
theorem J_draw4 {id : Nat} {ops : Array Oper} (p1 p2 p3 p4 : List Pl) (hp : plansB ops (pre ops) c.n [p1, p2, p3, p4] = true) (h1 : JR c ops (p1.map (stp ops)) k st Γ) (h2 : JR c ops (p2.map (stp ops)) k st Γ) (h3 : JR c ops (p3.map (stp ops)) k st Γ) (h4 : JR c ops (p4.map (stp ops)) k st Γ) : J c (.code (.region id ops true) :: k) st Γ :=
  J_draws [p1, p2, p3, p4] hp fun p hp => by
    rcases List.mem_cons.1 hp with rfl | hp
    · exact h1
    rcases List.mem_cons.1 hp with rfl | hp
    · exact h2
    rcases List.mem_cons.1 hp with rfl | hp
    · exact h3
    · rw [List.mem_singleton.1 hp]; exact h4
/-- Read again: lengths. -/
theorem RO_lnb {a : List UInt8} [TStr c.P T] (hv : ev st x = some (vs a)) : RO c st Γ ⟨d, .call ⟨.builtin .len, #[x], #[T]⟩, ty, pos, af, g⟩ (.int .i64 a.length) := by
  have := RO_len_str (c := c) (Γ := Γ) (d := d) (ty := ty) (pos := pos) (af := af) (g := g) (T := T) hv
  rwa [bs_size] at this
theorem RO_lls {α : Type} {e : EncT α} {v : Value} {L : List α} {E : TypeId} [ht : TSlice c.P T E] (hv : ev st x = some v) [hr : RdG Γ v e L] : RO c st Γ ⟨d, .call ⟨.builtin .len, #[x], #[T]⟩, ty, pos, af, g⟩ (.int .i64 L.length) := fun a w ha hS => by
  obtain ⟨p, cap, rfl⟩ := (hr.h _ _ _ hS).len
  exact RO_len_slice (c := c) (Γ := Γ) hv a w ha hS

/-! ### numbers -/
theorem opi {op : BinOp} {u : Value} (hr : ∀ w, (binOp op T (.int i m) (.int j n)).run c.P w = .ok u w) (h : JR c ops l k (stput d u st) Γ) (hx : ev st x = some (.int i m) := by rfl) (hy : ev st y = some (.int j n) := by rfl)
    (hg : gOk ops st ⟨d, .binOp op T x y U, ty, pos, af, g⟩ = some true := by rfl) (hd : dOk d c.n = true := by rfl) : JR c ops (⟨⟨d, .binOp op T x y U, ty, pos, af, g⟩, fl, []⟩ :: l) k st Γ :=
  ro h (fun a w ha _ => by simp [execOp, ev_eval ha hx, ev_eval ha hy, run_eqGuard_int, hr]) hg hd
theorem shr (h : JR c ops l k (stput d (.int i r) st) Γ) (hr : m.fdiv (2 ^ (min n.toNat i.bits)) = r := by rfl) (hx : ev st x = some (.int i m) := by rfl) (hy : ev st y = some (.int j n) := by rfl) (hn : 0 ≤ n := by omega)
    (hg : gOk ops st ⟨d, .binOp .shr T x y U, ty, pos, af, g⟩ = some true := by rfl) (hd : dOk d c.n = true := by rfl) : JR c ops (⟨⟨d, .binOp .shr T x y U, ty, pos, af, g⟩, fl, []⟩ :: l) k st Γ := by
  subst hr
  exact opi (fun w => by simp [binOp, Op.shift, Int.not_lt.2 hn]) h hx hy hg hd
theorem shl (h : JR c ops l k (stput d (.int i r) st) Γ) (hr : i.wrap (m * 2 ^ (min n.toNat i.bits)) = r := by rfl) (hx : ev st x = some (.int i m) := by rfl) (hy : ev st y = some (.int j n) := by rfl) (hn : 0 ≤ n := by omega)
    (hg : gOk ops st ⟨d, .binOp .shl T x y U, ty, pos, af, g⟩ = some true := by rfl) (hd : dOk d c.n = true := by rfl) : JR c ops (⟨⟨d, .binOp .shl T x y U, ty, pos, af, g⟩, fl, []⟩ :: l) k st Γ := by
  subst hr
  exact opi (fun w => by simp [binOp, Op.shift, Int.not_lt.2 hn]) h hx hy hg hd
theorem band (h : JR c ops l k (stput d (.int i r) st) Γ) (hr : i.wrap ((BitVec.ofInt i.bits m &&& BitVec.ofInt i.bits n).toNat : Int) = r := by rfl) (hx : ev st x = some (.int i m) := by rfl) (hy : ev st y = some (.int i n) := by rfl)
    (hg : gOk ops st ⟨d, .binOp .and T x y U, ty, pos, af, g⟩ = some true := by rfl) (hd : dOk d c.n = true := by rfl) : JR c ops (⟨⟨d, .binOp .and T x y U, ty, pos, af, g⟩, fl, []⟩ :: l) k st Γ := by
  subst hr
  exact opi (fun w => by simp [binOp, Op.intBits]) h hx hy hg hd
theorem bor (h : JR c ops l k (stput d (.int i r) st) Γ) (hr : i.wrap ((BitVec.ofInt i.bits m ||| BitVec.ofInt i.bits n).toNat : Int) = r := by rfl) (hx : ev st x = some (.int i m) := by rfl) (hy : ev st y = some (.int i n) := by rfl)
    (hg : gOk ops st ⟨d, .binOp .or T x y U, ty, pos, af, g⟩ = some true := by rfl) (hd : dOk d c.n = true := by rfl) : JR c ops (⟨⟨d, .binOp .or T x y U, ty, pos, af, g⟩, fl, []⟩ :: l) k st Γ := by
  subst hr
  exact opi (fun w => by simp [binOp, Op.intBits]) h hx hy hg hd
theorem bxor (h : JR c ops l k (stput d (.int i r) st) Γ) (hr : i.wrap ((BitVec.ofInt i.bits m ^^^ BitVec.ofInt i.bits n).toNat : Int) = r := by rfl) (hx : ev st x = some (.int i m) := by rfl) (hy : ev st y = some (.int i n) := by rfl)
    (hg : gOk ops st ⟨d, .binOp .xor T x y U, ty, pos, af, g⟩ = some true := by rfl) (hd : dOk d c.n = true := by rfl) : JR c ops (⟨⟨d, .binOp .xor T x y U, ty, pos, af, g⟩, fl, []⟩ :: l) k st Γ := by
  subst hr
  exact opi (fun w => by simp [binOp, Op.intBits]) h hx hy hg hd
theorem quo (h : JR c ops l k (stput d (.int i r) st) Γ) (hr : i.wrap (m.tdiv n) = r := by rfl) (hx : ev st x = some (.int i m) := by rfl) (hy : ev st y = some (.int i n) := by rfl) (hn : n ≠ 0 := by omega)
    (hg : gOk ops st ⟨d, .binOp .quo T x y U, ty, pos, af, g⟩ = some true := by rfl) (hd : dOk d c.n = true := by rfl) : JR c ops (⟨⟨d, .binOp .quo T x y U, ty, pos, af, g⟩, fl, []⟩ :: l) k st Γ := by
  subst hr
  exact opi (fun w => by simp [binOp, Op.intDiv, hn]) h hx hy hg hd
theorem rem (h : JR c ops l k (stput d (.int i r) st) Γ) (hr : m.tmod n = r := by rfl) (hx : ev st x = some (.int i m) := by rfl) (hy : ev st y = some (.int i n) := by rfl) (hn : n ≠ 0 := by omega)
    (hg : gOk ops st ⟨d, .binOp .rem T x y U, ty, pos, af, g⟩ = some true := by rfl) (hd : dOk d c.n = true := by rfl) : JR c ops (⟨⟨d, .binOp .rem T x y U, ty, pos, af, g⟩, fl, []⟩ :: l) k st Γ := by
  subst hr
  exact opi (fun w => by simp [binOp, Op.intDiv, hn]) h hx hy hg hd
theorem ngr (h : JR c ops l k (stput d (.int i r) st) Γ) (hr : i.wrap (0 - n) = r := by rfl) (hv : ev st x = some (.int i n) := by rfl) (hg : gOk ops st ⟨d, .unOp .neg T x, ty, pos, af, g⟩ = some true := by rfl) (hd : dOk d c.n = true := by rfl) : JR c ops (⟨⟨d, .unOp .neg T x, ty, pos, af, g⟩, fl, []⟩ :: l) k st Γ := by
  subst hr; exact ng h hv hg hd
theorem cpl (h : JR c ops l k (stput d (.int i r) st) Γ) (hr : i.wrap ((BitVec.ofInt i.bits (if i.signed then -1 else i.max) ^^^ BitVec.ofInt i.bits n).toNat : Int) = r := by rfl) (hv : ev st x = some (.int i n) := by rfl) (hg : gOk ops st ⟨d, .unOp .xor T x, ty, pos, af, g⟩ = some true := by rfl) (hd : dOk d c.n = true := by rfl) : JR c ops (⟨⟨d, .unOp .xor T x, ty, pos, af, g⟩, fl, []⟩ :: l) k st Γ := by
  subst hr
  exact ro h (fun a w ha _ => by simp [execOp, ev_eval ha hv, Op.unary, Op.intBits]) hg hd
theorem cvr [TInt c.P S i] [TInt c.P T j] {i' : IntKind} (h : JR c ops l k (stput d (.int j r) st) Γ) (hr : j.wrap n = r := by rfl) (hv : ev st x = some (.int i' n) := by rfl) (hg : gOk ops st ⟨d, .convert S T x, ty, pos, af, g⟩ = some true := by rfl) (hd : dOk d c.n = true := by rfl) : JR c ops (⟨⟨d, .convert S T x, ty, pos, af, g⟩, fl, []⟩ :: l) k st Γ := by
  subst hr; exact cv h hv hg hd

/-! ### pointers and nil -/
theorem run_eqGuard_ptr {P : Program} {op : BinOp} {p q : Option Addr} {w : World} : (eqGuard op T x y (.pointer p) (.pointer q)).run P w = .ok () w := by
  unfold eqGuard; split <;> rfl
theorem pointee_of {P : Program} {E : TypeId} (h : P.underlying T = some (.pointer E)) : P.underlying T = some (.pointer (P.pointee T)) := by
  rw [h]; unfold Program.pointee; rw [h]
theorem pen {E : TypeId} {p : Option Addr} [ht : TPtr c.P T E] (h : JR c ops l k (stput d (.bool p.isNone) st) Γ) (hx : ev st x = some (.pointer p) := by rfl) (hy : ev st y = some (.pointer none) := by rfl) (hg : gOk ops st ⟨d, .binOp .eql T x y U, ty, pos, af, g⟩ = some true := by rfl) (hd : dOk d c.n = true := by rfl) :
    JR c ops (⟨⟨d, .binOp .eql T x y U, ty, pos, af, g⟩, fl, []⟩ :: l) k st Γ :=
  ro h (fun a w ha _ => by simp [execOp, ev_eval ha hx, ev_eval ha hy, run_eqGuard_ptr, run_eql_pointer_nil w T p (pointee_of ht.h)]) hg hd
theorem pnn {E : TypeId} {p : Option Addr} [ht : TPtr c.P T E] (h : JR c ops l k (stput d (.bool (!p.isNone)) st) Γ) (hx : ev st x = some (.pointer p) := by rfl) (hy : ev st y = some (.pointer none) := by rfl) (hg : gOk ops st ⟨d, .binOp .neq T x y U, ty, pos, af, g⟩ = some true := by rfl) (hd : dOk d c.n = true := by rfl) :
    JR c ops (⟨⟨d, .binOp .neq T x y U, ty, pos, af, g⟩, fl, []⟩ :: l) k st Γ :=
  ro h (fun a w ha _ => by simp [execOp, ev_eval ha hx, ev_eval ha hy, run_eqGuard_ptr, run_neq_pointer_nil w T p (pointee_of ht.h)]) hg hd
end

/-! ### bytes -/
def byteDec : List Value → UInt8
  | [.int _ n] => UInt8.ofNat n.toNat
  | _ => 0
def byteE : EncT UInt8 where
  enc b := [.int .u8 b.toNat]
  dec := byteDec
  sz := 1
  dflt := 0
  len _ := rfl
  ok _ := rfl
  pos := by decide
theorem flat_bytes (L : List UInt8) : flat byteE L = L.map fun b => Value.int .u8 b.toNat := by
  induction L with
  | nil => rfl
  | cons b L ih => rw [flat_cons, ih]; rfl
theorem strCells_bs (L : List UInt8) : Lib.strCells (bs L) = flat byteE L := by
  rw [flat_bytes]; simp [Lib.strCells]
section
variable {c : Ctx} {k : List Item} {st : St} {Γ : List Assn} {d : Option Tmp} {ty : TypeId} {pos : String} {af : Array Edge} {g : Option (Nat × Bool)} {ops : Array Oper} {rs : List Oper} {l : List Stp} {fl : Bool}
variable {x y : Operand} {T U S : TypeId} {v : Value}

theorem run_append_str_tgt {B w : World} {F : Assn} {P : Program} {E : TypeId} {t : Value} {K X : List UInt8} {tT sT ty : TypeId} (ht : P.underlying tT = some (.slice E)) (hu : P.underlying sT = some .string) (hz : (P.info? E).map (fun i => (i.size, i.bytes)) = some (1, 1)) (hZ : (P.info? E).bind (·.zero) = some (.int .u8 0))
    (hT : Tgt E byteE t K Γ B F w) (hb : K.length + X.length ≤ 140737488355328) :
    ∃ v' w', (Builtin.append_ #[tT, sT] ty #[t, vs X]).run P w = .ok v' w' ∧ Sat B F (sl E byteE v' (K ++ X) :: Γ) w' := by
  obtain ⟨i, hi, hib⟩ := Option.map_eq_some_iff.1 hz
  have hZ' : i.zero = some (.int .u8 0) := by rw [hi] at hZ; exact hZ
  simp only [Prod.mk.injEq] at hib
  obtain ⟨hi1, hi2⟩ := hib
  have hlenKX : (K ++ X).length = K.length + X.length := List.length_append
  have hzs : (Value.int .u8 0).cells.size = 1 := rfl
  have grown : ∀ (old : Nat), Sat B F Γ w → Sat B F (sl E byteE (.slice (some ⟨w.heap.size, 0, none⟩) (K.length + X.length) (grownCap w (K.length + X.length) old E)) (K ++ X) :: Γ)
      (w.drew.alloc (.cells ((flat byteE K).toArray ++ (flat byteE X).toArray ++ Builtin.zeroCells (Value.int .u8 0).cells (grownCap w (K.length + X.length) old E - (K.length + X.length))) E)) := by
    intro old hS
    have hge := grownCap_ge w (K.length + X.length) old E
    have := sl_new (e := byteE) (L := K ++ X) (E := E) (cap := grownCap w (K.length + X.length) old E) (cur := (flat byteE K).toArray ++ (flat byteE X).toArray ++ Builtin.zeroCells (Value.int .u8 0).cells (grownCap w (K.length + X.length) old E - (K.length + X.length))) hS.drew (by rw [hlenKX]; exact hge) (grownCap_le_maxLen w _ old E (by unfold maxLen; omega)) (by
      simp only [Array.size_append, List.size_toArray, size_zeroCells, hzs, flat_length, ← Nat.add_mul]
      show (K.length + X.length) * 1 + _ = _ * 1
      omega) (by
      simp only [Array.toList_append, List.append_assoc]
      rw [← List.append_assoc, ← flat_append, ← flat_length]
      exact List.take_left)
    rw [hlenKX] at this
    exact this
  have hXs : (bs X).size = X.length := bs_size X
  rcases hT with ⟨rfl, rfl, hS⟩ | ⟨g, cap, cur, rfl, hS, h1, h2, h3, h4⟩
  · by_cases hx0 : X = []
    · subst hx0
      refine ⟨.slice none 0 0, w, ?_, by simpa using sl_nil hS⟩
      simp [Builtin.append_, run_underlying ht, run_underlying hu, run_sizeOf (szOf_of hz), Builtin.lenOf, Builtin.firstCells, ByteArray.size]
    · have h0 : 0 < X.length := List.length_pos_iff.2 hx0
      have hr := run_append_nil_string (P := P) w tT sT ty E i _ ht hu hi hZ' (bs X) (by rw [hXs]; exact h0) (by rw [hXs]; simp at hb; omega) (by rw [hXs, hi2]; simp at hb; omega)
      refine ⟨_, _, hr, ?_⟩
      have := grown 0 hS
      have hd : (bs X).data.map (fun b => Value.int .u8 b.toNat) = (flat byteE X).toArray := by rw [flat_bytes]; simp
      rw [hXs, hd]
      simpa [flat_nil] using this
  · have hg := (hS.blk .here).2
    have hcs : cur.size = cap := by rw [h3]; exact Nat.mul_one _
    by_cases hroom : K.length + X.length ≤ cap
    · have hr := Lib.run_append_room_string (P := P) w tT sT ty E i ht hu hi hi1 g K.length cap cur hg (bs X) (by rw [hXs]; exact hroom) (by rw [hXs, hcs]; exact hroom)
      refine ⟨_, _, hr, ?_⟩
      rw [hXs, strCells_bs]
      have := sl_close (e := byteE) (L := K ++ X) (cap := cap) (cur := (cur.toList.take K.length ++ flat byteE X ++ cur.toList.drop (K.length + X.length)).toArray) (hS.write (setRow_heap_eq hg) rfl rfl rfl) (by rw [hlenKX]; exact hroom) h2 (by
        simp only [flat_length, List.size_toArray, List.length_append, List.length_take, List.length_drop, Array.length_toList]
        show _ + X.length * 1 + _ = cap * 1
        omega) (by
        have h4' : cur.toList.take (K.length * 1) = flat byteE K := h4
        rw [Nat.mul_one] at h4'
        show List.take _ (cur.toList.take K.length ++ flat byteE X ++ cur.toList.drop (K.length + X.length)) = _
        rw [h4', ← flat_append, ← flat_length]
        exact List.take_left)
      rw [hlenKX] at this
      exact this
    · have holds : ∀ j u, (flat byteE K)[j]? = some u → w.cell? ((⟨g, 0, none⟩ : Addr).add j) = some u := by
        intro j u hu
        have hj : j < K.length * 1 := by
          have := flat_length (e := byteE) K
          rw [show byteE.sz = 1 from rfl] at this
          rw [← this]
          rcases Nat.lt_or_ge j (flat byteE K).length with h | h
          · exact h
          · rw [List.getElem?_eq_none h] at hu; cases hu
        rw [add_none, Nat.zero_add]
        refine cell_of (l := cur.toList) hg ?_
        rw [← h4, List.getElem?_take, if_pos (show j < K.length * byteE.sz from hj)] at hu
        exact hu
      have hr := Lib.run_append_grow_string (P := P) w tT sT ty E i _ ht hu hi hZ' ⟨g, 0, none⟩ K.length cap (flat byteE K) (by rw [flat_length, hi1]; rfl) holds (bs X) (by rw [hXs]; omega) (by rw [hXs]; omega) (by
        rw [hXs, hi2]
        exact growslice_fits (by omega) (by omega))
      refine ⟨_, _, hr, ?_⟩
      rw [hXs, strCells_bs]
      exact grown cap hS.tail
/-- append(b, s...), s a string. -/
theorem aps {E : TypeId} {K X : List UInt8} {Γ' : List Assn} [ht : TSlice c.P T E] [hu : TStr c.P S] [hz : ESize c.P E 1 1] [hZ : TZero c.P E (.int .u8 0)] (hx : ev st x = some v) (hy : ev st y = some (vs X))
    [hs : SelS Γ v E byteE K Γ'] (h : ∀ v', JS c ops rs l k (stput d v' st) (sl E byteE v' (K ++ X) :: Γ')) (hb : K.length + X.length ≤ 140737488355328 := by omega)
    (hg : gOk ops st ⟨d, .call ⟨.builtin .append, #[x, y], #[T, S]⟩, ty, pos, af, g⟩ = some true := by rfl) (hd : dOk d c.n = true := by rfl) : JR c ops (⟨⟨d, .call ⟨.builtin .append, #[x, y], #[T, S]⟩, ty, pos, af, g⟩, false, rs⟩ :: l) k st Γ := by
  intro b cs a w h1 h2 h3 h4
  unfold CR
  simp only [gOk_wanted hg h3, if_true, Bool.false_eq_true, if_false]
  obtain ⟨v', w', hr, hS⟩ := run_append_str_tgt (ty := ty) ht.h hu.h hz.h hZ.z (tgt_sl (h4.perm hs.h.perm)) hb
  rw [run_builtin (vs := [v, vs X]) (by simp [ev_eval h3 hx, ev_eval h3 hy]) (r := .ok (.value v') w') (fun cs => by simp [builtin, hr])]
  exact JS_of (h v') h1 h2 (h3.put hd _) hS

/-- string(b), of bytes that are read. -/
theorem RO_bytes_str {E : TypeId} {L : List UInt8} [hs : TSlice c.P S E] [he : TInt c.P E .u8] [ht : TStr c.P T] (hv : ev st x = some v) [hr : RdG Γ v byteE L] : RO c st Γ ⟨d, .convert S T x, ty, pos, af, g⟩ (vs L) := fun a w ha hS => by
  have hev := ev_eval ha hv
  rcases hr.h _ _ _ hS with ⟨rfl, rfl⟩ | ⟨b, off, cap, cur, E', fz, rfl, h2, h3, h4⟩
  · have := run_convert_bytes_string w S T E none 0 0 hs.h he.h ht.h (P := c.P)
    simp only [execOp, hev, Sem.run_bind, this]
    rfl
  · have := run_convert_bytes_back (P := c.P) w S T E ⟨b, off, none⟩ cap L hs.h he.h ht.h (fun j hj => by
      rw [add_none]
      refine cell_of (l := cur.toList) h3 ?_
      rw [h4 j (by show j < L.length * 1; omega), flat_bytes, List.getElem?_map, List.getElem?_eq_getElem hj]; rfl)
    simp only [execOp, hev, Sem.run_bind, this]
    rfl
theorem bst {E : TypeId} {L : List UInt8} [hs : TSlice c.P S E] [he : TInt c.P E .u8] [ht : TStr c.P T] (hv : ev st x = some v) [hr : RdG Γ v byteE L] (h : JR c ops l k (stput d (vs L) st) Γ)
    (hg : gOk ops st ⟨d, .convert S T x, ty, pos, af, g⟩ = some true := by rfl) (hd : dOk d c.n = true := by rfl) : JR c ops (⟨⟨d, .convert S T x, ty, pos, af, g⟩, fl, []⟩ :: l) k st Γ :=
  ro h (RO_bytes_str hv) hg hd

/-! ### what a call that makes new blocks alone makes known -/
theorem Sat.fresh {B w w' : World} {F : Assn} {b : Nat} {o : Obj} (h : Sat B F Γ w) (hb : Below w.heap.size w w') (hge : w.heap.size ≤ b) (hg : w'.heap[b]? = some o) : Sat B F (Sl.blk b o :: Γ) w' := by
  obtain ⟨h0, m, hm, h1, h2, d, l1, l2, hF, hs⟩ := h
  have hnone : ∀ h' : Hp, Hp.le h' m → h' b = none := fun h' l => by
    cases e : h' b with
    | none => rfl
    | some x =>
      have := (hm _ _ (l _ _ e)).2
      rw [Array.getElem?_eq_none hge] at this; cases this
  have dm : Hp.disj (Hp.one b o) m := fun q => by
    by_cases e : q = b
    · right; subst e; exact hnone m (Hp.le_refl _)
    · left; simp [Hp.one, e]
  refine ⟨h0.trans (hb.mono h0.size), Hp.union (Hp.one b o) m, ?_, h1, Hp.union (Hp.one b o) h2, ?_, Hp.le_trans l1 (Hp.le_union_right dm), Hp.union_le (Hp.le_union_left _ _) (Hp.le_trans l2 (Hp.le_union_right dm)), hF, Hp.one b o, h2, Hp.disj_le dm (Hp.le_refl _) l2, Hp.le_union_left _ _, Hp.le_union_right (Hp.disj_le dm (Hp.le_refl _) l2), by simp [Sl.blk, Hp.one], hs⟩
  · intro q o' e
    unfold Hp.union at e
    by_cases hbn : q = b
    · subst hbn
      simp [Hp.one] at e
      subst e
      exact ⟨Nat.le_trans h0.size hge, hg⟩
    · simp [Hp.one, hbn] at e
      obtain ⟨h5, h6⟩ := hm q o' e
      have hlt : q < w.heap.size := by
        rcases Nat.lt_or_ge q w.heap.size with h | h
        · exact h
        · rw [Array.getElem?_eq_none h] at h6; cases h6
      exact ⟨h5, by rw [hb.block q hlt]; exact h6⟩
  · exact Hp.disj_symm (Hp.disj_union (Hp.disj_le dm (Hp.le_refl _) l1) (Hp.disj_symm d))
end
section
variable {c : Ctx} {k : List Item} {st : St} {Γ : List Assn} {d : Option Tmp} {ty : TypeId} {pos : String} {af : Array Edge} {g : Option (Nat × Bool)} {ops : Array Oper} {rs : List Oper} {l : List Stp} {fl : Bool}
/-! ### addresses that are the same; unsafe's conversions; an outer function; unsafe's strings -/
variable {x y : Operand} {T U S : TypeId}
theorem pes {E : TypeId} {p : Addr} [ht : TPtr c.P T E] {sz bb : Nat} [hz : ESize c.P E sz bb] (h : JR c ops l k (stput d (.bool true) st) Γ) (hx : ev st x = some (.pointer (some p)) := by rfl) (hy : ev st y = some (.pointer (some p)) := by rfl) (hg : gOk ops st ⟨d, .binOp .eql T x y U, ty, pos, af, g⟩ = some true := by rfl) (hd : dOk d c.n = true := by rfl) :
    JR c ops (⟨⟨d, .binOp .eql T x y U, ty, pos, af, g⟩, fl, []⟩ :: l) k st Γ :=
  ro h (fun a w ha _ => by
    obtain ⟨j, hj, _⟩ := Option.map_eq_some_iff.1 hz.h
    simp [execOp, ev_eval ha hx, ev_eval ha hy, run_eqGuard_ptr, run_eql_ptr_same w p ht.h hj]) hg hd
theorem pns {E : TypeId} {p : Addr} [ht : TPtr c.P T E] {sz bb : Nat} [hz : ESize c.P E sz bb] (h : JR c ops l k (stput d (.bool false) st) Γ) (hx : ev st x = some (.pointer (some p)) := by rfl) (hy : ev st y = some (.pointer (some p)) := by rfl) (hg : gOk ops st ⟨d, .binOp .neq T x y U, ty, pos, af, g⟩ = some true := by rfl) (hd : dOk d c.n = true := by rfl) :
    JR c ops (⟨⟨d, .binOp .neq T x y U, ty, pos, af, g⟩, fl, []⟩ :: l) k st Γ :=
  ro h (fun a w ha _ => by
    obtain ⟨j, hj, _⟩ := Option.map_eq_some_iff.1 hz.h
    simp [execOp, ev_eval ha hx, ev_eval ha hy, run_eqGuard_ptr, Lib.run_neq_ptr_same w p ht.h hj]) hg hd
theorem upc {E F : TypeId} {b o sz bb : Nat} {cl : List Value} {fz : Nat × Nat} [hs : TPtr c.P S E] [hz : ESize c.P E (sz + 1) bb] (hv : ev st x = some (.pointer (some ⟨b, o, none⟩))) [hi : InG Γ b (.cells ⟨cl⟩ F fz)] (h : JR c ops l k (stput d (.pointer (some ⟨b, o, none⟩)) st) Γ) (ht : c.P.underlying T = some .unsafePointer := by kernel_rfl) {n : Nat} (hn : cl.length = n := by rfl) (ho : Nat.blt o n = true := by rfl)
    (hg : gOk ops st ⟨d, .convert S T x, ty, pos, af, g⟩ = some true := by rfl) (hd : dOk d c.n = true := by rfl) : JR c ops (⟨⟨d, .convert S T x, ty, pos, af, g⟩, fl, []⟩ :: l) k st Γ :=
  ro h (fun a w ha hS => by
    obtain ⟨_, hsel⟩ := hi.h
    obtain ⟨j, hj, hjs⟩ := Option.map_eq_some_iff.1 hz.h
    simp only [Prod.mk.injEq] at hjs
    have hb := (hS.blk hsel).2
    have := Lib.run_to_unsafe w (e := F) (cells := cl.length) ⟨b, o, none⟩ hs.h ht hj (by omega) (by simp [World.shape?, hb]) (by rw [hn]; exact Nat.le_of_ble_eq_true ho)
    simp [execOp, ev_eval ha hv, this]) hg hd
theorem dpc {E F : TypeId} {b o sz bb : Nat} {cl : List Value} {fz : Nat × Nat} [ht : TPtr c.P T E] [hz : ESize c.P E sz bb] (hv : ev st x = some (.pointer (some ⟨b, o, none⟩))) [hi : InG Γ b (.cells ⟨cl⟩ F fz)] {n : Nat} (hl : liesAt c.P c.P.depth F (n / c.P.cellsOf F) o E 1 = true) (h : JR c ops l k (stput d (.pointer (some ⟨b, o, none⟩)) st) Γ) (hn : cl.length = n := by rfl) (hs : c.P.underlying S = some .unsafePointer := by kernel_rfl)
    (hg : gOk ops st ⟨d, .convert S T x, ty, pos, af, g⟩ = some true := by rfl) (hd : dOk d c.n = true := by rfl) : JR c ops (⟨⟨d, .convert S T x, ty, pos, af, g⟩, fl, []⟩ :: l) k st Γ :=
  ro h (fun a w ha hS => by
    obtain ⟨_, hsel⟩ := hi.h
    obtain ⟨j, hj, hjs⟩ := Option.map_eq_some_iff.1 hz.h
    have hb := (hS.blk hsel).2
    have := Lib.run_from_unsafe w (e := F) (cells := cl.length) ⟨b, o, none⟩ hs ht.h hj (by simp [World.shape?, hb]) (by rw [hn]; exact hl)
    simp [execOp, ev_eval ha hv, this]) hg hd
/-- A call of a function without a body, that reads nothing. -/
theorem cx {f : FuncId} {xs : List Operand} {ats : Array TypeId} {us : List Value} {v : Value} (hr : ∀ w, (callFunc f ⟨us⟩).run c.P w = .ok (.value v) w) (h : JS c ops rs l k (stput d v st) Γ) (hvs : evl st xs = some us := by rfl) (hg : gOk ops st ⟨d, .call ⟨.value (.func f), ⟨xs⟩, ats⟩, ty, pos, af, g⟩ = some true := by rfl) (hd : dOk d c.n = true := by rfl) :
    JR c ops (⟨⟨d, .call ⟨.value (.func f), ⟨xs⟩, ats⟩, ty, pos, af, g⟩, false, rs⟩ :: l) k st Γ :=
  JR_rv hg hd (fun a w ha _ => by
    have hargs : (⟨xs⟩ : Array Operand).map a.eval = ⟨us⟩ := by rw [← (evl_evs hvs).map ha]; rw [← Array.toList_inj]; simp
    have e : a.eval (.func f) = .func (.func f) #[] #[] := rfl
    simp only [execOp, resolve, hargs, e, Deferred.ofValue, Sem.run_bind, Sem.run_pure, Result.andThen_ok, invoke]
    simpa using hr w) h
/-- unsafe.SliceData, of a slice with room. -/
theorem usd {A : TypeId} {p : Addr} {n m : Nat} (h : JS c ops rs l k (stput d (.pointer (some p)) st) Γ) (hv : ev st x = some (.slice (some p) n m) := by rfl) (hm : m ≠ 0 := by omega) (hg : gOk ops st ⟨d, .call ⟨.builtin .unsafeSliceData, #[x], #[A]⟩, ty, pos, af, g⟩ = some true := by rfl) (hd : dOk d c.n = true := by rfl) :
    JR c ops (⟨⟨d, .call ⟨.builtin .unsafeSliceData, #[x], #[A]⟩, ty, pos, af, g⟩, false, rs⟩ :: l) k st Γ :=
  JR_rv hg hd (fun a w ha hS => by
    refine run_builtin (vs := [.slice (some p) n m]) (by simp [ev_eval ha hv]) fun cs => ?_
    simp [builtin, Lib.run_unsafeSliceData_row _ _ _ _ _ _ hm]) h
/-- unsafe.String, of all that a row holds up to a length: those cells are frozen. -/
theorem uss {A I E b : Nat} {cur : Array Value} {L : List UInt8} {Γ' : List Assn} [ht : TPtr c.P A E] [hs : SelG Γ b (.cells cur E (0, 0)) Γ'] (hc : c.P.cellsOf E = 1) (h : ∀ fz, JS c ops rs l k (stput d (vs L) st) (blk b (.cells cur E fz) :: Γ')) (hL : L ≠ []) (hn : L.length ≤ cur.size) (h63 : L.length ≤ 9223372036854775807) (hcur : cur.toList.take L.length = flat byteE L)
    (hx : ev st x = some (.pointer (some ⟨b, 0, none⟩)) := by rfl) (hy : ev st y = some (.int .i64 L.length) := by rfl) (hg : gOk ops st ⟨d, .call ⟨.builtin .unsafeString, #[x, y], #[A, I]⟩, ty, pos, af, g⟩ = some true := by rfl) (hd : dOk d c.n = true := by rfl) :
    JR c ops (⟨⟨d, .call ⟨.builtin .unsafeString, #[x, y], #[A, I]⟩, ty, pos, af, g⟩, false, rs⟩ :: l) k st Γ := by
  intro b' cs a w h1 h2 h3 h4
  unfold CR
  simp only [gOk_wanted hg h3, if_true, Bool.false_eq_true, if_false]
  have hb := (h4.blk hs.h).2
  have hr := Lib.run_unsafeString_row (P := c.P) w A I ty E ht.h hc b cur.size (by simp [World.shape?, hb]) L hL hn h63 (fun j q hq => by
    rw [add_none, Nat.zero_add]
    refine cell_of (l := cur.toList) hb ?_
    have hj : j < L.length := (List.getElem?_eq_some_iff.1 hq).1
    have : (cur.toList.take L.length)[j]? = (flat byteE L)[j]? := by rw [hcur]
    rw [List.getElem?_take, if_pos hj, flat_bytes, List.getElem?_map, hq] at this
    exact this)
  rw [run_builtin (vs := [.pointer (some ⟨b, 0, none⟩), .int .i64 L.length]) (by simp [ev_eval h3 hx, ev_eval h3 hy]) (r := .ok (.value (vs L)) (w.freeze ⟨b, 0, none⟩ L.length)) (fun cs => by simp [builtin, hr])]
  have hlen : L.length ≠ 0 := fun e => hL (List.length_eq_zero_iff.1 e)
  have hheap : (w.freeze ⟨b, 0, none⟩ L.length).heap = w.heap.setIfInBounds b (.cells cur E (0, L.length)) := by
    have hlt : b < w.heap.size := (Array.getElem?_eq_some_iff.1 hb).1
    unfold World.freeze
    rw [if_neg hlen]
    apply Array.ext_getElem?
    intro j
    simp only [Array.getElem?_modify]
    by_cases e : b = j
    · subst e; rw [if_pos rfl, hb]; simp [hlt]
    · rw [if_neg e, Array.getElem?_setIfInBounds_ne e]
  have hw : (w.freeze ⟨b, 0, none⟩ L.length).os = w.os ∧ (w.freeze ⟨b, 0, none⟩ L.length).tape = w.tape ∧ (w.freeze ⟨b, 0, none⟩ L.length).output = w.output := by
    unfold World.freeze
    rw [if_neg hlen]; exact ⟨rfl, rfl, rfl⟩
  exact JS_of (h (0, L.length)) h1 h2 (h3.put hd _) (upd_sat h4 hs.h hheap hw.1 hw.2.1 hw.2.2)
/-- A slice that is read, stored. -/
theorem sro {α : Type} {e : EncT α} {L : List α} {E b o bb : Nat} {cl cl' : List Value} {Γ' : List Assn} {v : Value} [hs : SelG Γ b (.cells ⟨cl⟩ E (0, 0)) Γ'] [hz : ESize c.P T 1 bb] (hx : ev st x = some (.pointer (some ⟨b, o, none⟩))) (hy : ev st y = some v) [hr : RdG Γ v e L] (h : JS c ops rs l k (stput d undef st) (blk b (.cells ⟨cl'⟩ E (0, 0)) :: Γ'))
    (hp : PutN cl o [v] cl' := by (repeat constructor)) (hg : gOk ops st ⟨d, .store T x y, ty, pos, af, g⟩ = some true := by rfl) (hd : dOk d c.n = true := by rfl) : JR c ops (⟨⟨d, .store T x y, ty, pos, af, g⟩, false, rs⟩ :: l) k st Γ :=
  JR_fact (p := ∃ p n m, v = .slice p n m) (fun w hS => let ⟨p, m, hv⟩ := (hr.h _ _ _ hS).len; ⟨p, _, m, hv⟩) fun ⟨p, n, m, hv⟩ => by
    refine JR_store (vs := [v]) hg hd hx hy (szOf_of hz.h) (by rw [hv]; rfl) rfl (by rw [hv]; rfl) hp h
/-- append(s, xs...), s owned, xs read. -/
theorem apo {α : Type} {e : EncT α} {K X : List α} {E bb : Nat} {z s v : Value} {Γ' : List Assn} [ht : TSlice c.P T E] [hz : ESize c.P E e.sz bb] [hZ : TZero c.P E z] (hx : ev st x = some v) (hy : ev st y = some s) [hs : SelS Γ v E e K Γ'] [hr : RdG Γ s e X] (h : ∀ v', JS c ops rs l k (stput d v' st) (sl E e v' (K ++ X) :: Γ'))
    (hb : (K.length + X.length) * bb ≤ 140737488355328) (hm : K.length + X.length ≤ 9223372036854775807) (hzl : z.cells.size = e.sz := by rfl) (hg : gOk ops st ⟨d, .call ⟨.builtin .append, #[x, y], #[T, T]⟩, ty, pos, af, g⟩ = some true := by rfl) (hd : dOk d c.n = true := by rfl) :
    JR c ops (⟨⟨d, .call ⟨.builtin .append, #[x, y], #[T, T]⟩, ty, pos, af, g⟩, false, rs⟩ :: l) k st Γ :=
  apd hx hy (fun B F w hS => tgt_sl (hS.perm hs.h.perm)) (fun B F w hS => hr.h B F w hS) h hb hm hzl hg hd
/-- s == nil. -/
theorem run_eqGuard_slice {P : Program} {op : BinOp} {p q : Option Addr} {n m n' m' : Nat} {w : World} : (eqGuard op T x y (.slice p n m) (.slice q n' m')).run P w = .ok () w := by
  unfold eqGuard; split <;> rfl
theorem sen {α : Type} {e : EncT α} {L : List α} {E : TypeId} {v : Value} [ht : TSlice c.P T E] (hx : ev st x = some v) [hr : RdG Γ v e L] (h1 : v = .slice none 0 0 → L = [] → JR c ops l k (stput d (.bool true) st) Γ) (h0 : (∀ n m, v ≠ .slice none n m) → JR c ops l k (stput d (.bool false) st) Γ) (hy : ev st y = some (.slice none 0 0) := by rfl)
    (hg : gOk ops st ⟨d, .binOp .eql T x y U, ty, pos, af, g⟩ = some true := by rfl) (hd : dOk d c.n = true := by rfl) : JR c ops (⟨⟨d, .binOp .eql T x y U, ty, pos, af, g⟩, fl, []⟩ :: l) k st Γ := by
  refine JR_fact (p := (v = .slice none 0 0 ∧ L = []) ∨ ∃ a n m, v = .slice (some a) n m) (fun w hS => ?_) ?_
  · rcases hr.h _ _ _ hS with h | ⟨b, off, cap, cur, E, fz, h1, h2, h3, h4⟩
    · exact .inl h
    · exact .inr ⟨_, _, _, h1⟩
  · rintro (⟨hv, hL⟩ | ⟨a, n, m, hv⟩)
    · refine ro (h1 hv hL) (fun ac w ha _ => ?_) hg hd
      subst hv
      simp [execOp, ev_eval ha hx, ev_eval ha hy, run_eqGuard_slice, Lib.run_eql_slice_nil w T E none 0 0 0 0 ht.h]
    · refine ro (h0 fun n' m' e => by rw [hv] at e; cases e) (fun ac w ha _ => ?_) hg hd
      subst hv
      simp [execOp, ev_eval ha hx, ev_eval ha hy, run_eqGuard_slice, Lib.run_eql_slice_nil w T E (some a) n m 0 0 ht.h]
/-- A new map. -/
theorem mkm {κ α : Type} [DecidableEq κ] {T : TypeId} (M : MapT κ α) (h : ∀ b, JS c ops rs l k (stput d (.map (some b)) st) (mp M b [] :: Γ)) (hg : gOk ops st ⟨d, .makeMap T none, ty, pos, af, g⟩ = some true := by rfl) (hd : dOk d c.n = true := by rfl) :
    JR c ops (⟨⟨d, .makeMap T none, ty, pos, af, g⟩, false, rs⟩ :: l) k st Γ := by
  intro b cs a w h1 h2 h3 h4
  unfold CR
  simp only [gOk_wanted hg h3, if_true, Bool.false_eq_true, if_false]
  have : (execOp a.eval ⟨d, .makeMap T none, ty, pos, af, g⟩).run c.P w = .ok (.value (.map (some w.heap.size))) (w.alloc (.map #[] 0)) := by
    simp [execOp, Instr.makeMap]
  rw [this]
  exact JS_of (h w.heap.size) h1 h2 (h3.put hd _) (mp_close (h4.alloc _) ⟨rfl, by simp, by simp⟩)
end
end Go.Proofs.YtaeefjcbmkiiaaaGreatDoor.Sl
