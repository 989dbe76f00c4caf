/- Strings, as lists of bytes; equality of flat structs. -/
import Derived.Test.YtaeefjcbmkiiaaaGreatDoorSl5
import Derived.Laws.Strings
import Derived.Laws.StructEq
import Derived.WalkLawsBesides
namespace Go.Proofs.YtaeefjcbmkiiaaaGreatDoor.Sl
open Go Go.RowKit

/-- A string of a list of bytes. -/
abbrev bs (l : List UInt8) : ByteArray := ByteArray.mk l.toArray
abbrev vs (l : List UInt8) : Value := .string (bs l)
theorem bs_eta (s : ByteArray) : bs s.data.toList = s := by
  obtain ⟨⟨l⟩⟩ := s; rfl
theorem bs_size (l : List UInt8) : (bs l).size = l.length := by simp [ByteArray.size]
theorem bs_inj {a b : List UInt8} : bs a = bs b ↔ a = b := by
  constructor
  · intro h
    have := congrArg (fun s : ByteArray => s.data.toList) h
    simpa using this
  · rintro rfl; rfl
theorem bs_append (a b : List UInt8) : bs a ++ bs b = bs (a ++ b) := by
  show ByteArray.append _ _ = _
  apply ByteArray.ext
  simp
theorem bs_extract (a : List UInt8) (i j : Nat) : (bs a).extract i j = bs ((a.take j).drop i) := by
  apply ByteArray.ext
  simp [ByteArray.data_extract, List.drop_take]

section
variable {c : Ctx} {k : List Item} {st : St} {Γ : List Assn} {d : Option Tmp} {ty : TypeId} {pos : String} {af : Array Edge} {g : Option (Nat × Bool)} {ops : Array Oper} {rs : List Oper} {l : List Stp} {fl : Bool}
variable {x y : Operand} {T U : TypeId} {a b : List UInt8}

theorem run_eqGuard_str {P : Program} {op : BinOp} {T : TypeId} {x y : Operand} {s t : ByteArray} {w : World} : (eqGuard op T x y (.string s) (.string t)).run P w = .ok () w := by
  unfold eqGuard; split <;> rfl
theorem RO_str {op : BinOp} {v : Value} (hx : ev st x = some (vs a)) (hy : ev st y = some (vs b)) (h : ∀ w, (binOp op T (vs a) (vs b)).run c.P w = .ok v w) :
    RO c st Γ ⟨d, .binOp op T x y U, ty, pos, af, g⟩ v := fun ac w ha _ => by
  simp [execOp, ev_eval ha hx, ev_eval ha hy, run_eqGuard_str, h]
theorem cc (h : JR c ops l k (stput d (vs (a ++ b)) st) Γ) (hx : ev st x = some (vs a) := by rfl) (hy : ev st y = some (vs b) := by rfl) (hb : a.length + b.length ≤ 9223372036854775807 := by omega)
    (hg : gOk ops st ⟨d, .binOp .add T x y U, ty, pos, af, g⟩ = some true := by rfl) (hd : dOk d c.n = true := by rfl) : JR c ops (⟨⟨d, .binOp .add T x y U, ty, pos, af, g⟩, fl, []⟩ :: l) k st Γ :=
  ro h (RO_str hx hy fun w => by
    simp only [binOp, Op.stringOp, bs_size, bs_append]
    have hmax : IntKind.i64.max = 9223372036854775807 := by decide
    rw [if_neg (by rw [hmax]; omega)]
    rfl) hg hd
theorem seq (h : JR c ops l k (stput d (.bool (decide (a = b))) st) Γ) (hx : ev st x = some (vs a) := by rfl) (hy : ev st y = some (vs b) := by rfl) (hg : gOk ops st ⟨d, .binOp .eql T x y U, ty, pos, af, g⟩ = some true := by rfl) (hd : dOk d c.n = true := by rfl) : JR c ops (⟨⟨d, .binOp .eql T x y U, ty, pos, af, g⟩, fl, []⟩ :: l) k st Γ :=
  ro h (RO_str hx hy fun w => by
    simp only [binOp, Op.stringOp, ByteArray.toList_mk, Sem.run_pure]
    have e : (a == b) = decide (a = b) := by by_cases h : a = b <;> simp [h]
    rw [e]) hg hd
theorem sne (h : JR c ops l k (stput d (.bool (!decide (a = b))) st) Γ) (hx : ev st x = some (vs a) := by rfl) (hy : ev st y = some (vs b) := by rfl) (hg : gOk ops st ⟨d, .binOp .neq T x y U, ty, pos, af, g⟩ = some true := by rfl) (hd : dOk d c.n = true := by rfl) : JR c ops (⟨⟨d, .binOp .neq T x y U, ty, pos, af, g⟩, fl, []⟩ :: l) k st Γ :=
  ro h (RO_str hx hy fun w => by
    simp only [binOp, Op.stringOp, ByteArray.toList_mk, Sem.run_pure]
    have e : (a == b) = decide (a = b) := by by_cases h : a = b <;> simp [h]
    rw [e]) hg hd
theorem slt (h : JR c ops l k (stput d (.bool (Op.bytesLess a b)) st) Γ) (hx : ev st x = some (vs a) := by rfl) (hy : ev st y = some (vs b) := by rfl) (hg : gOk ops st ⟨d, .binOp .lss T x y U, ty, pos, af, g⟩ = some true := by rfl) (hd : dOk d c.n = true := by rfl) : JR c ops (⟨⟨d, .binOp .lss T x y U, ty, pos, af, g⟩, fl, []⟩ :: l) k st Γ :=
  ro h (RO_str hx hy fun w => by simp only [binOp, Op.stringOp, ByteArray.toList_mk, Sem.run_pure]) hg hd
/-- The length, of a list of bytes. -/
theorem lnb [TStr c.P T] (h : JR c ops l k (stput d (.int .i64 a.length) st) Γ) (hv : ev st x = some (vs a) := by rfl) (hg : gOk ops st ⟨d, .call ⟨.builtin .len, #[x], #[T]⟩, ty, pos, af, g⟩ = some true := by rfl) (hd : dOk d c.n = true := by rfl) : JR c ops (⟨⟨d, .call ⟨.builtin .len, #[x], #[T]⟩, ty, pos, af, g⟩, fl, []⟩ :: l) k st Γ := by
  refine ls ?_ hv hg hd
  rw [bs_size]; exact h
/-- A byte: at i from 0 on, below the length. -/
theorem ixb [ht : TStr c.P T] {i : IntKind} {n : Int} (h : JR c ops l k (stput d (.int .u8 (a.getD n.toNat 0).toNat) st) Γ) (hx : ev st x = some (vs a) := by rfl) (hy : ev st y = some (.int i n) := by rfl) (hb : 0 ≤ n ∧ n < a.length := by omega)
    (hg : gOk ops st ⟨d, .index T x y, ty, pos, af, g⟩ = some true := by rfl) (hd : dOk d c.n = true := by rfl) : JR c ops (⟨⟨d, .index T x y, ty, pos, af, g⟩, fl, []⟩ :: l) k st Γ :=
  ro h (fun ac w ha _ => by
    have hlt : n.toNat < a.length := by omega
    have := run_index_string (P := c.P) w T (bs a) i n ht.h
    rw [dif_pos ⟨hb.1, by rw [bs_size]; exact hb.2⟩] at this
    simp only [execOp, ev_eval ha hx, ev_eval ha hy, Sem.run_bind, this, Result.andThen_ok]
    have e : (bs a)[n.toNat]'(by rw [bs_size]; exact hlt) = a.getD n.toNat 0 := by
      rw [List.getD_eq_getElem?_getD, List.getElem?_eq_getElem hlt]; rfl
    rw [e]; rfl) hg hd

theorem run_sliceB {P : Program} {j : IntKind} {i : Int} {y : Nat} {code : BoundsCode} {w : World} (h : 0 ≤ i ∧ i ≤ y) : (Instr.sliceBound (.int j i) y code).run P w = .ok i.toNat w := by
  simp [Instr.sliceBound, asIntOf, h]
/-- s[i:j], s[i:], s[:j]. -/
theorem slb [ht : TStr c.P T] {lo hi : Operand} {i j : IntKind} {m n : Int} (h : JR c ops l k (stput d (vs ((a.take n.toNat).drop m.toNat)) st) Γ) (hx : ev st x = some (vs a) := by rfl) (hl : ev st lo = some (.int i m) := by rfl) (hh : ev st hi = some (.int j n) := by rfl) (hb : 0 ≤ m ∧ m ≤ n ∧ n ≤ a.length := by omega)
    (hg : gOk ops st ⟨d, .slice T x (some lo) (some hi) none, ty, pos, af, g⟩ = some true := by rfl) (hd : dOk d c.n = true := by rfl) : JR c ops (⟨⟨d, .slice T x (some lo) (some hi) none, ty, pos, af, g⟩, fl, []⟩ :: l) k st Γ :=
  ro h (fun ac w ha _ => by
    simp only [execOp, ev_eval ha hx, ev_eval ha hl, ev_eval ha hh, Option.map_some, Option.map_none, Instr.sliceAt, Instr.slice, Sem.run_bind, run_underlying ht.h, Result.andThen_ok, Instr.sliceBounds, bs_size]
    simp only [Sem.run_pure, Option.isSome, Bool.false_eq_true, if_false]
    simp [run_sliceB (P := c.P) (w := w) (j := j) (code := .sliceAlen) (y := a.length) ⟨by omega, hb.2.2⟩, run_sliceB (P := c.P) (w := w) (j := i) (code := .sliceB) (y := n.toNat) (i := m) ⟨hb.1, by omega⟩, bs_extract]) hg hd
theorem slbl [ht : TStr c.P T] {lo : Operand} {i : IntKind} {m : Int} (h : JR c ops l k (stput d (vs (a.drop m.toNat)) st) Γ) (hx : ev st x = some (vs a) := by rfl) (hl : ev st lo = some (.int i m) := by rfl) (hb : 0 ≤ m ∧ m ≤ a.length := by omega)
    (hg : gOk ops st ⟨d, .slice T x (some lo) none none, ty, pos, af, g⟩ = some true := by rfl) (hd : dOk d c.n = true := by rfl) : JR c ops (⟨⟨d, .slice T x (some lo) none none, ty, pos, af, g⟩, fl, []⟩ :: l) k st Γ :=
  ro h (fun ac w ha _ => by
    simp only [execOp, ev_eval ha hx, ev_eval ha hl, Option.map_some, Option.map_none, Instr.sliceAt, Instr.slice, Sem.run_bind, run_underlying ht.h, Result.andThen_ok, Instr.sliceBounds, bs_size]
    simp [run_sliceB (P := c.P) (w := w) (j := i) (code := .sliceB) (y := a.length) (i := m) ⟨hb.1, by omega⟩, bs_extract]) hg hd
theorem slbh [ht : TStr c.P T] {hi : Operand} {j : IntKind} {n : Int} (h : JR c ops l k (stput d (vs (a.take n.toNat)) st) Γ) (hx : ev st x = some (vs a) := by rfl) (hh : ev st hi = some (.int j n) := by rfl) (hb : 0 ≤ n ∧ n ≤ a.length := by omega)
    (hg : gOk ops st ⟨d, .slice T x none (some hi) none, ty, pos, af, g⟩ = some true := by rfl) (hd : dOk d c.n = true := by rfl) : JR c ops (⟨⟨d, .slice T x none (some hi) none, ty, pos, af, g⟩, fl, []⟩ :: l) k st Γ :=
  ro h (fun ac w ha _ => by
    simp only [execOp, ev_eval ha hx, ev_eval ha hh, Option.map_some, Option.map_none, Instr.sliceAt, Instr.slice, Sem.run_bind, run_underlying ht.h, Result.andThen_ok, Instr.sliceBounds, bs_size]
    simp [run_sliceB (P := c.P) (w := w) (j := j) (code := .sliceAlen) (y := a.length) (i := n) ⟨hb.1, by omega⟩, bs_extract]) hg hd

/-! ### structs of numbers, bools and strings, held against each other -/
def eqCell : Value → Value → Bool
  | .int _ a, .int _ b => a == b
  | .bool a, .bool b => a == b
  | .string a, .string b => a.data.toList == b.data.toList
  | _, _ => false
def eqCells : List Value → List Value → Bool
  | x :: xs, y :: ys => eqCell x y && eqCells xs ys
  | _, _ => true
def kindV (P : Program) (T : TypeId) (x y : Value) : Bool := match P.underlying T, x, y with
  | some (.int _), .int k _, .int k' _ => k == k'
  | some .bool, .bool _, .bool _ => true
  | some .string, .string _, .string _ => true
  | _, _, _ => false
end
def kindsFit (P : Program) : List Field → List Value → List Value → Bool
  | f :: fs, x :: xs, y :: ys => kindV P f.type x y && kindsFit P fs xs ys
  | [], _, _ => true
  | _, _, _ => false
section
variable {c : Ctx} {k : List Item} {st : St} {Γ : List Assn} {d : Option Tmp} {ty : TypeId} {pos : String} {af : Array Edge} {g : Option (Nat × Bool)} {ops : Array Oper} {rs : List Oper} {l : List Stp} {fl : Bool}
variable {x y : Operand} {T U : TypeId}
theorem run_eqFlat {P : Program} {n : Nat} (w : World) : ∀ (fs : List Field) (i : Nat) (xs ys : List Value), flatFields P i fs = true → kindsFit P fs (xs.drop i) (ys.drop i) = true → fs.length = xs.length - i → i ≤ xs.length → xs.length = ys.length →
    (Op.eqFields (n + 1) ⟨xs⟩ ⟨ys⟩ fs).run P w = .ok (eqCells (xs.drop i) (ys.drop i)) w
  | [], i, xs, ys, _, _, hl, hi, hxy => by
    have : xs.drop i = [] := List.drop_eq_nil_of_le (by simp at hl; omega)
    simp [Op.eqFields, this, eqCells]
  | f :: fs, i, xs, ys, hf, hk, hl, hi, hxy => by
    simp only [flatFields, Bool.and_eq_true, bne_iff_ne, beq_iff_eq] at hf
    obtain ⟨⟨⟨h1, h2⟩, h3⟩, h4⟩ := hf
    have hx : i < xs.length := by simp at hl; omega
    have hy : i < ys.length := by omega
    rw [List.drop_eq_getElem_cons hx, List.drop_eq_getElem_cons hy] at hk ⊢
    simp only [kindsFit, Bool.and_eq_true] at hk
    obtain ⟨h5, h6⟩ := hk
    have ha : aggOf P f.type = some false := by
      unfold scalarB at h3
      unfold aggOf
      split at h3 <;> simp_all
    have p1 : ∀ (zs : List Value) (hz : i < zs.length) (w : World), (part f.type ⟨zs⟩ f.offset).run P w = .ok zs[i] w := fun zs hz w => by
      simp [part, run_isAgg ha, h2, hz]
    have he : ∀ w, (Op.equalIn (n + 1) f.type xs[i] ys[i]).run P w = .ok (eqCell xs[i] ys[i]) w := fun w => by
      unfold kindV at h5
      split at h5
      · rename_i k a k' b hu hxi hyi
        simp at h5; subst h5
        rw [hxi, hyi, run_equalIn_int _ _ _ _ _ _ _ hu]; rfl
      · rename_i hu hxi hyi
        rw [hxi, hyi, run_equalIn_bool' _ _ _ _ _ hu]; rfl
      · rename_i hu hxi hyi
        rw [hxi, hyi, run_equalIn_string _ _ _ _ _ hu, ByteArray.toList_eq, ByteArray.toList_eq]; rfl
      · cases h5
    have hlen : fs.length = xs.length - (i + 1) := by simp at hl; omega
    have ih := run_eqFlat (P := P) (n := n) w fs (i + 1) xs ys h4 h6 hlen (by omega) hxy
    simp only [Op.eqFields, h1, ne_eq, not_false_eq_true, if_true, Sem.run_bind, p1 xs hx, p1 ys hy, Result.andThen_ok, he]
    cases hb : eqCell xs[i] ys[i] with
    | false => simp [eqCells, hb]
    | true => simp [eqCells, hb]; exact ih
theorem run_eqStruct {P : Program} [hT : TFlat P T] {xs ys : List Value} (hk : kindsFit P (P.fieldsOf T).toList xs ys = true) (hx : xs.length = (P.fieldsOf T).toList.length) (hy : ys.length = (P.fieldsOf T).toList.length) (w : World) :
    (Op.equalIn 10000 T (.agg ⟨xs⟩) (.agg ⟨ys⟩)).run P w = .ok (eqCells xs ys) w := by
  rw [run_equalIn_struct w 9999 T _ _ hT.u hT.s]
  have := run_eqFlat (P := P) (n := 9998) w (P.fieldsOf T).toList 0 xs ys hT.f (by simpa using hk) (by omega) (by omega) (by omega)
  simpa using this
theorem kinds_of {P : Program} : ∀ (fs : List Field) (ks : List FK) (xs ys : List Value), fs.map (fun f => fkOf P f.type) = ks.map some → fitK ks xs ys = true → kindsFit P fs xs ys = true
  | [], _, _, _, _, _ => rfl
  | f :: fs, [], _, _, h, _ => by simp at h
  | f :: fs, q :: ks, xs, ys, h, hk => by
    simp only [List.map_cons, List.cons.injEq] at h
    obtain ⟨h1, h2⟩ := h
    cases xs with
    | nil => cases q <;> simp [fitK] at hk
    | cons x xs =>
      cases ys with
      | nil => cases q <;> cases x <;> simp [fitK] at hk
      | cons y ys =>
        have hr : kindV P f.type x y = true ∧ fitK ks xs ys = true := by
          unfold fkOf at h1
          unfold kindV
          cases q <;> cases x <;> first
            | (exfalso; simp [fitK] at hk; done)
            | (cases y <;> first
                | (exfalso; simp [fitK] at hk; done)
                | (simp only [fitK] at hk; split at h1 <;> simp_all))
        simp only [kindsFit, Bool.and_eq_true]
        exact ⟨hr.1, kinds_of fs ks xs ys h2 hr.2⟩
theorem aeq {xs ys : List Value} {ks : List FK} [hT : TFlatK c.P T ks] (h : JR c ops l k (stput d (.bool (eqCells xs ys)) st) Γ) (hx : ev st x = some (.agg ⟨xs⟩) := by rfl) (hy : ev st y = some (.agg ⟨ys⟩) := by rfl) (hk : fitK ks xs ys = true := by rfl) (h1 : xs.length = ks.length := by rfl) (h2 : ys.length = ks.length := by rfl)
    (hg : gOk ops st ⟨d, .binOp .eql T x y U, ty, pos, af, g⟩ = some true := by rfl) (hd : dOk d c.n = true := by rfl) : JR c ops (⟨⟨d, .binOp .eql T x y U, ty, pos, af, g⟩, fl, []⟩ :: l) k st Γ :=
  ro h (fun ac w ha _ => by
    simp only [execOp, ev_eval ha hx, ev_eval ha hy, Sem.run_bind, run_eqGuard_agg w .eql T x y _ _ hT.g, Result.andThen_ok, run_eql_struct, run_eqStruct (P := c.P) (xs := xs) (ys := ys) (kinds_of _ _ _ _ hT.k hk) (by rw [h1, hT.len]) (by rw [h2, hT.len])]
    rfl) hg hd
theorem ane {xs ys : List Value} {ks : List FK} [hT : TFlatK c.P T ks] (h : JR c ops l k (stput d (.bool (!eqCells xs ys)) st) Γ) (hx : ev st x = some (.agg ⟨xs⟩) := by rfl) (hy : ev st y = some (.agg ⟨ys⟩) := by rfl) (hk : fitK ks xs ys = true := by rfl) (h1 : xs.length = ks.length := by rfl) (h2 : ys.length = ks.length := by rfl)
    (hg : gOk ops st ⟨d, .binOp .neq T x y U, ty, pos, af, g⟩ = some true := by rfl) (hd : dOk d c.n = true := by rfl) : JR c ops (⟨⟨d, .binOp .neq T x y U, ty, pos, af, g⟩, fl, []⟩ :: l) k st Γ :=
  ro h (fun ac w ha _ => by
    simp only [execOp, ev_eval ha hx, ev_eval ha hy, Sem.run_bind, run_eqGuard_agg w .neq T x y _ _ hT.g, Result.andThen_ok, run_neq_struct, run_eqStruct (P := c.P) (xs := xs) (ys := ys) (kinds_of _ _ _ _ hT.k hk) (by rw [h1, hT.len]) (by rw [h2, hT.len])]
    rfl) hg hd
end
end Go.Proofs.YtaeefjcbmkiiaaaGreatDoor.Sl
