/- Read again: a group of cells of a slice's element. -/
import Derived.Test.YtaeefjcbmkiiaaaGreatDoorSlB
namespace Go.Proofs.YtaeefjcbmkiiaaaGreatDoor.Sl
open Go
section
open Go.RowKit
variable {c : Ctx} {k : List Item} {st : St} {Γ : List Assn} {d : Option Tmp} {ty : TypeId} {pos : String} {af : Array Edge} {g : Option (Nat × Bool)}
theorem RO_lae {x : Operand} {T : TypeId} {α : Type} {e : EncT α} {v : Value} {L : List α} {i j n : Nat} {us : List Value} [ht : TAgg c.P T n] (hv : ev st x = some (.pointer (some ⟨vb v, el (vo v) i e.sz j, none⟩))) [hr : RdG Γ v e L] (hb : i < L.length) (hl : GetN (e.enc (L.getD i e.dflt)) j n us) : RO c st Γ ⟨d, .load T x, ty, pos, af, g⟩ (.agg ⟨us⟩) := fun a w ha hS => by
  obtain ⟨cap, E', fz, cur, h1, h2, h3⟩ := (hr.h _ _ _ hS).at hb
  obtain ⟨h4, h5⟩ := hl.get
  have := run_loadVar_agg (P := c.P) ht.a ht.s h4 (w := w) (b := vb v) (o := el (vo v) i e.sz j) (fun q hq => by
    have hq' : q < us.length := by omega
    have h6 := h5 q hq
    rw [List.getElem?_eq_getElem hq'] at h6 ⊢
    have hjq : j + q < e.sz := by
      rw [← e.len (L.getD i e.dflt)]
      rcases Nat.lt_or_ge (j + q) (e.enc (L.getD i e.dflt)).length with h | h
      · exact h
      · rw [List.getElem?_eq_none h] at h6; cases h6
    refine cell_of (l := cur.toList) h2 ?_
    rw [show el (vo v) i e.sz j + q = el (vo v) i e.sz (j + q) by unfold el; omega, h3 _ hjq, h6])
  simp [execOp, ev_eval ha hv, Instr.loadAt, Instr.sureAddr, this]
theorem RO_bld {T : TypeId} {parts : List (Nat × Operand)} {pl : List (Nat × Nat)} {zv : Value} {zl zl' : List Value} [ht : TPlaces c.P T pl] [hZ : TZero c.P T zv] (hz0 : zv = .agg ⟨zl⟩) (hp : FillS st pl zl parts zl') :
    RO c st Γ ⟨d, .build T ⟨parts⟩, ty, pos, af, g⟩ (.agg ⟨zl'⟩) := fun a w ha hS => by
  have hz : zv.cells = ⟨zl⟩ := by rw [hz0]; rfl
  obtain ⟨fs, h1, h2, h3⟩ := ht.h
  have hm : (fs.mapM fun f => do pure (f.offset, ← sizeOf f.type) : Sem (Array (Nat × Nat))).run c.P w = .ok ⟨pl⟩ w := by
    have key : ∀ (l : List Field), l.all (fun f => (szOf c.P f.type).isSome) = true → (l.mapM fun f => do pure (f.offset, ← sizeOf f.type) : Sem (List (Nat × Nat))).run c.P w = .ok (l.map fun f => (f.offset, (szOf c.P f.type).getD 0)) w := by
      intro l
      induction l with
      | nil => intro _; rfl
      | cons f l ih =>
        intro hl
        simp only [List.all_cons, Bool.and_eq_true] at hl
        obtain ⟨s, hs⟩ := Option.isSome_iff_exists.1 hl.1
        rw [List.mapM_cons, Sem.run_bind]
        simp only [Sem.run_bind, run_sizeOf hs, Result.andThen_ok, Sem.run_pure, ih hl.2, List.map_cons, hs, Option.getD_some]
    obtain ⟨fl⟩ := fs
    rw [show (⟨fl⟩ : Array Field) = fl.toArray from rfl, List.mapM_toArray, Sem.run_map, key fl h3]
    simp only [Result.andThen_ok]
    rw [← h2]
  have hmap : (((⟨parts⟩ : Array (Nat × Operand)).map fun (p : Nat × Operand) => (p.1, a.eval p.2)).toList) = parts.map fun p => (p.1, a.eval p.2) := by simp
  simp only [execOp, Instr.build, Sem.run_bind, run_zeroValue hZ.z, Result.andThen_ok, run_underlying h1, hm, hz]
  rw [show ((⟨parts⟩ : Array (Nat × Operand)).map fun x => match x with | (i, x) => (i, a.eval x)).toList = parts.map fun p => (p.1, a.eval p.2) from hmap, fill_of ha (fun i => (⟨pl⟩ : Array (Nat × Nat))[i]?) (fun i => by simp) hp]
  rfl
theorem RO_cc {x y : Operand} {T U : TypeId} {a b : List UInt8} (hx : ev st x = some (vs a)) (hy : ev st y = some (vs b)) (hb : a.length + b.length ≤ 9223372036854775807) : RO c st Γ ⟨d, .binOp .add T x y U, ty, pos, af, g⟩ (vs (a ++ b)) :=
  RO_str hx hy fun w => by
    simp only [binOp, Op.stringOp, bs_size, bs_append]
    have hmax : IntKind.i64.max = 9223372036854775807 := by decide
    rw [if_neg (by rw [hmax]; omega)]
    rfl
theorem RO_slil {α : Type} {e : EncT α} {v : Value} {L : List α} {x lo : Operand} {T : TypeId} {i : IntKind} {m : Int} {E bb : Nat} [ht : TSlice c.P T E] (hv : ev st x = some v) [hr : RdG Γ v e L] [hz : ESize c.P E e.sz bb] (hl : ev st lo = some (.int i m)) (hb : 0 ≤ m ∧ m ≤ L.length) : RO c st Γ ⟨d, .slice T x (some lo) none none, ty, pos, af, g⟩ (vw v m.toNat L.length e.sz) := fun a w ha hS => by
  obtain ⟨p, M, h1, h2⟩ := (hr.h _ _ _ hS).cap
  exact RO_slice (c := c) (Γ := Γ) (sz := e.sz) (lo := some lo) (hi := none) hv ⟨i, by rw [hl, Int.toNat_of_nonneg hb.1]⟩ (fun p' n' m' he => by rw [h1] at he; cases he; rfl) (fun w hS => by
    obtain ⟨p, M, h1, h2⟩ := (hr.h _ _ _ hS).cap
    exact ⟨p, _, M, h1, h2, by omega, h2⟩) a w ha hS
/-- append(s, xs[a:b]...), s owned. -/
theorem apv {ops : Array Oper} {rs : List Oper} {l : List Stp} {k : List Item} {x y : Operand} {T : TypeId} {α : Type} {e : EncT α} {K L : List α} {E bb a b : Nat} {z s v : Value} {Γ' : List Assn} [ht : TSlice c.P T E] [hz : ESize c.P E e.sz bb] [hZ : TZero c.P E z] (hx : ev st x = some s) (hy : ev st y = some (vw v a b e.sz)) [hs : SelS Γ s E e K Γ'] [hr : RdG Γ v e L] (hab : a ≤ b) (hbl : b ≤ L.length)
    (h : ∀ v', JS c ops rs l k (stput d v' st) (sl E e v' (K ++ (L.take b).drop a) :: Γ')) (hb : (K.length + ((L.take b).drop a).length) * bb ≤ 140737488355328) (hm : K.length + ((L.take b).drop a).length ≤ 9223372036854775807) (hzl : z.cells.size = e.sz := by rfl)
    (hg : gOk ops st ⟨d, .call ⟨.builtin .append, #[x, y], #[T, T]⟩, ty, pos, af, g⟩ = some true := by rfl) (hd : dOk d c.n = true := by rfl) : JR c ops (⟨⟨d, .call ⟨.builtin .append, #[x, y], #[T, T]⟩, ty, pos, af, g⟩, false, rs⟩ :: l) k st Γ :=
  apd hx hy (fun B F w hS => tgt_sl (hS.perm hs.h.perm)) (fun B F w hS => (hr.h B F w hS).view hab hbl) h hb hm hzl hg hd
/-- Is a guard known? -/
theorem glt {fl : Bool} {ops : Array Oper} {rs : List Oper} {l : List Stp} {k : List Item} {o : Oper} {j d : Nat} {want : Bool} (h : JR c ops (⟨o, fl, rs⟩ :: l) k st Γ) (hg : o.guard = some (j, want) := by rfl) (hd : (ops[j]?).bind (·.dst) = some d := by rfl) (hv : look st d = some (.bool true) := by rfl) : JR c ops (⟨o, fl, rs⟩ :: l) k st Γ := h
theorem glf {fl : Bool} {ops : Array Oper} {rs : List Oper} {l : List Stp} {k : List Item} {o : Oper} {j d : Nat} {want : Bool} (h : JR c ops (⟨o, fl, rs⟩ :: l) k st Γ) (hg : o.guard = some (j, want) := by rfl) (hd : (ops[j]?).bind (·.dst) = some d := by rfl) (hv : look st d = some (.bool false) := by rfl) : JR c ops (⟨o, fl, rs⟩ :: l) k st Γ := h
/-- A guard that was itself not carried out: what hangs on it is not either. -/
def gOff (ops : Array Oper) (st : St) (o : Oper) : Bool :=
  match o.guard with
  | none => false
  | some (j, _) => match (ops[j]?).bind (·.dst) with
    | some d => match look st d with
      | some (.tuple _) => true
      | _ => false
    | none => false
theorem gOff_wanted {n : Nat} {ops : Array Oper} {o : Oper} {a : Act} (h : gOff ops st o = true) (ha : Agree n st a) : Region.wanted o (yielded ops a.tmps) = false := by
  unfold gOff at h
  unfold Region.wanted
  split at h
  · cases h
  · rename_i j want hg
    rw [hg]
    dsimp only at h ⊢
    split at h
    · rename_i d hd
      split at h
      · rename_i u hb
        have := ha.2.2 d _ hb
        have hy : yielded ops a.tmps j = none := by
          unfold yielded
          rw [hd]
          simp only [Option.bind_some]
          rw [Array.getD_eq_getD_getElem?] at this
          cases hx : a.tmps[d]? with
          | none => rfl
          | some v => rw [hx] at this; simp only [Option.getD_some] at this; subst this; rfl
        rw [hy]; rfl
      · cases h
    · cases h
theorem sku {fl : Bool} {ops : Array Oper} {rs : List Oper} {l : List Stp} {k : List Item} {o : Op} (h : JR c ops l k (stput d undef st) Γ) (hg : gOff ops st ⟨d, o, ty, pos, af, g⟩ = true := by rfl) (hd : dOk d c.n = true := by rfl) : JR c ops (⟨⟨d, o, ty, pos, af, g⟩, fl, rs⟩ :: l) k st Γ := by
  intro b cs a w h1 h2 h3 h4
  unfold CR
  simp only [gOff_wanted hg h3, Bool.false_eq_true, if_false]
  exact h b cs _ w h1 h2 (h3.put hd undef) h4
theorem JS_offu {ops : Array Oper} {r : Oper} {rs : List Oper} {l : List Stp} {k : List Item} (hg : gOff ops st r = true) (h : JS c ops rs l k st Γ) : JS c ops (r :: rs) l k st Γ := by
  intro b cs a w h1 h2 h3 h4
  obtain ⟨h5, h6⟩ := h b cs a w h1 h2 h3 h4
  refine ⟨fun x hx => ?_, h6⟩
  rcases List.mem_cons.1 hx with rfl | hx
  · intro hw
    rw [gOff_wanted hg h3] at hw; cases hw
  · exact h5 x hx
theorem ssl {fl : Bool} {ops : Array Oper} {l : List Stp} {k : List Item} {x y : Operand} {T U : TypeId} {a b : List UInt8} (h : JR c ops l k (stput d (.bool (Op.bytesLess a b)) st) Γ) (hx : ev st x = some (vs a) := by rfl) (hy : ev st y = some (vs b) := by rfl) (hg : gOk ops st ⟨d, .binOp .lss T x y U, ty, pos, af, g⟩ = some true := by rfl) (hd : dOk d c.n = true := by rfl) : JR c ops (⟨⟨d, .binOp .lss T x y U, ty, pos, af, g⟩, fl, []⟩ :: l) k st Γ :=
  ro h (RO_str hx hy fun w => by simp only [binOp, Op.stringOp, ByteArray.toList_mk, Sem.run_pure]) hg hd
/-- A call, the arguments first: where it does not fit, it fails at once. -/
theorem cle {k : List Item} {ops : Array Oper} {rs : List Oper} {l : List Stp} {xs : List Operand} {ats : Array TypeId} {f : FuncId} {us : List Value} {Pre R : List Assn} {Q : Value → List Assn → Prop} [IsFn c.P f] (hvs : evl st xs = some us) (ht : Tr c.P f us Pre Q) (h : ∀ v Γ', Q v Γ' → JS c ops rs l k (stput d v st) (Γ' ++ R))
    (hs : Split Γ Pre R := by (repeat constructor)) (hg : gOk ops st ⟨d, .call ⟨.value (.func f), ⟨xs⟩, ats⟩, ty, pos, af, g⟩ = some true := by rfl) (hd : dOk d c.n = true := by rfl) :
    JR c ops (⟨⟨d, .call ⟨.value (.func f), ⟨xs⟩, ats⟩, ty, pos, af, g⟩, false, rs⟩ :: l) k st Γ := cl ht h (evl_evs hvs) hs hg hd
end
end Go.Proofs.YtaeefjcbmkiiaaaGreatDoor.Sl
