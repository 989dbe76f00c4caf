/- Numbers' other operations; pointers held against nil; bytes: a string appended, a string made of bytes; memory put in another shape. -/
import Derived.Test.YtaeefjcbmkiiaaaGreatDoorSlA
import Derived.Lib.AppendStr
import Derived.Lib.UnsafeStr
import Derived.Laws.Externs
import Derived.Laws.IdiomStrings
import Derived.Laws.Pointers
import Derived.Lib.Builder
import Derived.LaidEqlPtr
import Derived.WalkSpells
namespace Go.Proofs.YtaeefjcbmkiiaaaGreatDoor.Sl
open Go Go.RowKit
section
variable {c : Ctx} {k : List Item} {st : St} {Γ : List Assn} {d : Option Tmp} {ty : TypeId} {pos : String} {af : Array Edge} {g : Option (Nat × Bool)} {ops : Array Oper} {rs : List Oper} {l : List Stp} {fl : Bool}
variable {x y : Operand} {T U S : TypeId} {i j : IntKind} {m n r : Int}

/-! ### memory in another shape -/
theorem JR_sat {Γ' : List Assn} (h : JR c ops l k st Γ') (hs : ∀ w, Sat c.B c.F Γ w → Sat c.B c.F Γ' w) : JR c ops l k st Γ :=
  fun b cs a w h1 h2 h3 h4 => h b cs a w h1 h2 h3 (hs w h4)
theorem J_sat {Γ' : List Assn} (h : J c k st Γ') (hs : ∀ w, Sat c.B c.F Γ w → Sat c.B c.F Γ' w) : J c k st Γ :=
  fun b cs a w h1 h2 h3 h4 => h b cs a w h1 h2 h3 (hs w h4)
theorem JS_sat {Γ' : List Assn} (h : JS c ops rs l k st Γ') (hs : ∀ w, Sat c.B c.F Γ w → Sat c.B c.F Γ' w) : JS c ops rs l k st Γ :=
  fun b cs a w h1 h2 h3 h4 => h b cs a w h1 h2 h3 (hs w h4)
/-- What memory says beyond all doubt. -/
theorem J_fact {p : Prop} (hp : ∀ w, Sat c.B c.F Γ w → p) (h : p → J c k st Γ) : J c k st Γ :=
  fun b cs a w h1 h2 h3 h4 => h (hp w h4) b cs a w h1 h2 h3 h4
theorem JR_fact {p : Prop} (hp : ∀ w, Sat c.B c.F Γ w → p) (h : p → JR c ops l k st Γ) : JR c ops l k st Γ :=
  fun b cs a w h1 h2 h3 h4 => h (hp w h4) b cs a w h1 h2 h3 h4
theorem JS_fact {p : Prop} (hp : ∀ w, Sat c.B c.F Γ w → p) (h : p → JS c ops rs l k st Γ) : JS c ops rs l k st Γ :=
  fun b cs a w h1 h2 h3 h4 => h (hp w h4) b cs a w h1 h2 h3 h4
theorem J_st {st' : St} (h : J c k st' Γ) (hs : Sub st st') : J c k st Γ := fun b cs a w h1 h2 h3 h4 => h b cs a w h1 h2 ⟨h3.1, h3.2.1, fun t v hv => h3.2.2 t v (hs t v hv)⟩ h4
theorem Tr.pre {P : Program} {f : FuncId} {args : List Value} {Pre Pre' : List Assn} {Q : Value → List Assn → Prop} (h : Tr P f args Pre' Q) (hs : ∀ B F w, Sat B F Pre w → Sat B F Pre' w) : Tr P f args Pre Q :=
  fun B F w hS => h B F w (hs B F w hS)
theorem Tr.fact {P : Program} {f : FuncId} {args : List Value} {Pre : List Assn} {Q : Value → List Assn → Prop} {p : Prop} (h : p → Tr P f args Pre Q) (hp : ∀ B F w, Sat B F Pre w → p) : Tr P f args Pre Q :=
  fun B F w hS => h (hp B F w hS) B F w hS
theorem Tr.post {P : Program} {f : FuncId} {args : List Value} {Pre : List Assn} {Q Q' : Value → List Assn → Prop} (h : Tr P f args Pre Q) (hq : ∀ v Γ, Q v Γ → ∀ B F w, Sat B F Γ w → ∃ Γ', Q' v Γ' ∧ Sat B F Γ' w) : Tr P f args Pre Q' :=
  fun B F w hS => (h B F w hS).mono fun _ _ ⟨v, Γ', he, hQ, hS'⟩ => let ⟨Γ2, hq', hs⟩ := hq v Γ' hQ B F _ hS'; ⟨v, Γ2, he, hq', hs⟩
/-- A loop; its next round. -/
theorem lp {α : Type} {body : Code} {R : List Assn} (S : α → St) (G : α → List Assn) (pr : α → Prop) (μ : α → Nat) (x0 : α) (round : ∀ x, pr x → (∀ x', pr x' → μ x' < μ x → J c (.inLoop body :: k) (S x') (G x')) → J c (.code body :: .inLoop body :: k) (S x) (G x))
    (h0 : pr x0) (hs : Sub st (S x0) := by (repeat (first | exact Sub.nil | refine Sub.cons rfl ?_))) (hp : Split Γ (G x0) R := by (repeat constructor)) : J c (.code (.loop body) :: k) st Γ := J_loop S G pr μ x0 h0 hs hp round
theorem ag {st' : St} {Γ' R : List Assn} (h : J c k st' Γ') (hs : Sub st st' := by (repeat (first | exact Sub.nil | refine Sub.cons rfl ?_))) (hp : Split Γ Γ' R := by (repeat constructor)) : J c k st Γ := J_weaken h hs hp
theorem Tr.intro {P : Program} {f : FuncId} {args : List Value} {Pre : List Assn} {Q : Value → List Assn → Prop} (h : ∀ B F w, Sat B F Pre w → Calls P f args.toArray w (RQ B F Q)) : Tr P f args Pre Q := h
theorem Tr.app {P : Program} {f : FuncId} {args : List Value} {Pre : List Assn} {Q : Value → List Assn → Prop} (h : Tr P f args Pre Q) (B : World) (F : Assn) (w : World) (hS : Sat B F Pre w) : Calls P f args.toArray w (RQ B F Q) := h B F w hS
theorem Tr.framed {P : Program} {f : FuncId} {args : List Value} {C : Assn} {p : Value → Prop} (h : Tr P f args [] fun v Γ => p v ∧ Γ = []) : Tr P f args [C] fun v Γ => p v ∧ Γ = [C] :=
  fun B F w hS => (h B (all [F, C]) w (Sat.frame (As := []) hS)).mono fun _ _ ⟨v, Γ', he, ⟨hp, hG⟩, hS'⟩ => ⟨v, [C], he, ⟨hp, rfl⟩, by subst hG; exact Sat.unframe (As := []) hS'⟩
theorem Tr.open_all {P : Program} {f : FuncId} {args : List Value} {Δ R : List Assn} {Q : Value → List Assn → Prop} (h : Tr P f args (Δ ++ R) Q) : Tr P f args (all Δ :: R) Q := h.pre fun B F w hS => hS.all_open
theorem Tr.shut_all {P : Program} {f : FuncId} {args : List Value} {Δ R Pre : List Assn} {p : Value → Prop} (h : Tr P f args Pre fun v Γ => p v ∧ Γ = Δ ++ R) : Tr P f args Pre fun v Γ => p v ∧ Γ = all Δ :: R :=
  h.post fun v Γ ⟨hp, hG⟩ B F w hS => ⟨_, ⟨hp, rfl⟩, by subst hG; exact hS.all_close⟩
theorem Tr.shut_all' {P : Program} {f : FuncId} {args : List Value} {Δ R Pre : List Assn} (h : Tr P f args Pre fun v Γ => Γ = Δ ++ R) : Tr P f args Pre fun v Γ => Γ = all Δ :: R :=
  h.post fun v Γ hG B F w hS => ⟨_, rfl, by subst hG; exact hS.all_close⟩
/-- A slice that is owned: nil, or a row. -/
theorem sl_cases {α : Type} {e : EncT α} {v : Value} {L : List α} {B w : World} {F : Assn} {E : TypeId} (hS : Sat B F (sl E e v L :: Γ) w) : (v = .slice none 0 0 ∧ L = []) ∨ ∃ g cap, v = .slice (some ⟨g, 0, none⟩) L.length cap ∧ L.length ≤ cap ∧ cap ≤ maxLen := by
  obtain ⟨h1, hm, hA⟩ := hS.peek .here
  rcases hA with hA | ⟨g, cap, cur, e1, e2, e3, e4, e5, e6⟩
  · exact .inl hA
  · exact .inr ⟨g, cap, e1, e3, e4⟩

/-! ### temporaries kept plain -/
inductive GetAt : List Value → Nat → Value → Prop
  | zero {v : Value} {l : List Value} : GetAt (v :: l) 0 v
  | succ {v u : Value} {l : List Value} {i : Nat} : GetAt l i v → GetAt (u :: l) (i + 1) v
theorem GetAt.get {l : List Value} {i : Nat} {v : Value} (h : GetAt l i v) : (⟨l⟩ : Array Value)[i]? = some v := by
  induction h with
  | zero => simp
  | succ _ ih => simpa using ih
theorem xt2 {i : Nat} {us : List Value} {v : Value} (h : JR c ops l k (stput d v st) Γ) (hv : ev st x = some (.tuple ⟨us⟩) := by rfl) (hi : GetAt us i v := by repeat constructor) (hg : gOk ops st ⟨d, .extract x i, ty, pos, af, g⟩ = some true := by rfl) (hd : dOk d c.n = true := by rfl) :
    JR c ops (⟨⟨d, .extract x i, ty, pos, af, g⟩, fl, []⟩ :: l) k st Γ := ro h (RO_extract hv hi.get) hg hd
theorem sk2 {o : Op} (h : JR c ops l k (stput d undef st) Γ) (hg : gOk ops st ⟨d, o, ty, pos, af, g⟩ = some false := by rfl) (hd : dOk d c.n = true := by rfl) : JR c ops (⟨⟨d, o, ty, pos, af, g⟩, fl, rs⟩ :: l) k st Γ := JR_skip hg hd h
def evl (st : St) : List Operand → Option (List Value)
  | [] => some []
  | x :: xs => match ev st x, evl st xs with | some v, some vs => some (v :: vs) | _, _ => none
theorem evl_evs : ∀ {xs : List Operand} {us : List Value}, evl st xs = some us → Evs st xs us
  | [], us, h => by cases h; exact .nil
  | x :: xs, us, h => by
    unfold evl at h
    cases h1 : ev st x with
    | none => rw [h1] at h; cases h
    | some v =>
      cases h2 : evl st xs with
      | none => rw [h1, h2] at h; cases h
      | some vs => rw [h1, h2] at h; cases h; exact .cons h1 (evl_evs h2)
/-- A call of a function value, its arguments put together. -/
theorem cl3 {xs : List Operand} {ats : Array TypeId} {f : FuncId} {first captured : Array Value} {us args : List Value} {Pre R : List Assn} {Q : Value → List Assn → Prop} [IsFn c.P f] (hx : ev st x = some (.func (.func f) first captured)) (ht : Tr c.P f args Pre Q) (h : ∀ v Γ', Q v Γ' → JS c ops rs l k (stput d v st) (Γ' ++ R))
    (hvs : evl st xs = some us := by rfl) (ha : args = first.toList ++ us ++ captured.toList := by rfl) (hs : Split Γ Pre R := by (repeat constructor)) (hg : gOk ops st ⟨d, .call ⟨.value x, ⟨xs⟩, ats⟩, ty, pos, af, g⟩ = some true := by rfl) (hd : dOk d c.n = true := by rfl) :
    JR c ops (⟨⟨d, .call ⟨.value x, ⟨xs⟩, ats⟩, ty, pos, af, g⟩, false, rs⟩ :: l) k st Γ :=
  JR_call hg hd hx (evl_evs hvs) (ha ▸ ht) hs h
theorem mf2 {fn : Fn} {first captured : List Operand} {fs cs : List Value} (h : JR c ops l k (stput d (.func fn ⟨fs⟩ ⟨cs⟩) st) Γ) (h1 : evl st first = some fs := by rfl) (h2 : evl st captured = some cs := by rfl) (hg : gOk ops st ⟨d, .makeFunc fn ⟨first⟩ ⟨captured⟩, ty, pos, af, g⟩ = some true := by rfl) (hd : dOk d c.n = true := by rfl) :
    JR c ops (⟨⟨d, .makeFunc fn ⟨first⟩ ⟨captured⟩, ty, pos, af, g⟩, fl, []⟩ :: l) k st Γ := mf h (evl_evs h1) (evl_evs h2) hg hd
theorem RO_ixa {α : Type} {e : EncT α} {v : Value} {L : List α} {E bb : Nat} [ht : TSlice c.P T E] (hv : ev st x = some v) (hy : ev st y = some (.int i n)) [hr : RdG Γ v e L] [hz : ESize c.P E e.sz bb] (hb : 0 ≤ n ∧ n < L.length) : RO c st Γ ⟨d, .indexAddr T x y, ty, pos, af, g⟩ (.pointer (some ⟨vb v, el (vo v) n.toNat e.sz 0, none⟩)) := fun a w ha hS => by
  obtain ⟨cap, E', fz, cur, h1, h2, h3⟩ := (hr.h _ _ _ hS).at (i := n.toNat) (by omega)
  have hev := ev_eval ha hv
  rw [h1] at hev
  simp only [execOp, hev, ev_eval ha hy, Instr.indexAt, asIntOf, Sem.run_bind, Sem.run_pure, Result.andThen_ok, run_underlying ht.h]
  simp [hb, run_sizeOf (szOf_of hz.h), add_none, el]
theorem RO_fe {b o q sz jj off fi : Nat} [hf : FOff c.P T fi off] (hv : ev st x = some (.pointer (some ⟨b, el o q sz jj, none⟩))) : RO c st Γ ⟨d, .fieldAddr T x fi, ty, pos, af, g⟩ (.pointer (some ⟨b, el o q sz (jj + off), none⟩)) := by
  have := RO_fieldAddr (c := c) (Γ := Γ) (d := d) (ty := ty) (pos := pos) (af := af) (g := g) (T := T) (i := fi) hv
  rwa [show el o q sz jj + off = el o q sz (jj + off) by unfold el; omega] at this
theorem RO_lde {α : Type} {e : EncT α} {v : Value} {L : List α} {q jj : Nat} {u : Value} [ht : TSc c.P T] (hv : ev st x = some (.pointer (some ⟨vb v, el (vo v) q e.sz jj, none⟩))) [hr : RdG Γ v e L] (hb : q < L.length) (hl : (e.enc (L.getD q e.dflt))[jj]? = some u) : RO c st Γ ⟨d, .load T x, ty, pos, af, g⟩ u := fun a w ha hS => by
  obtain ⟨cap, E', fz, cur, h1, h2, h3⟩ := (hr.h _ _ _ hS).at hb
  have hj : jj < e.sz := by
    rw [← e.len (L.getD q e.dflt)]
    rcases Nat.lt_or_ge jj (e.enc (L.getD q e.dflt)).length with h | h
    · exact h
    · rw [List.getElem?_eq_none h] at hl; cases hl
  simp [execOp, ev_eval ha hv, Instr.loadAt, Instr.sureAddr, run_loadVar_sc ht.a (cell_of (l := cur.toList) h2 (by rw [h3 jj hj]; exact hl))]
theorem RO_slih {α : Type} {e : EncT α} {v : Value} {L : List α} {hi : Operand} {E bb : Nat} [ht : TSlice c.P T E] (hv : ev st x = some v) [hr : RdG Γ v e L] [hz : ESize c.P E e.sz bb] (hh : ev st hi = some (.int j n)) (hb : 0 ≤ n ∧ n ≤ L.length) : RO c st Γ ⟨d, .slice T x none (some hi) none, ty, pos, af, g⟩ (vw v 0 n.toNat e.sz) :=
  RO_slice (sz := e.sz) (lo := none) hv rfl ⟨j, by rw [hh, Int.toNat_of_nonneg hb.1]⟩ fun w hS => by
    obtain ⟨p, M, h1, h2⟩ := (hr.h _ _ _ hS).cap
    exact ⟨p, _, M, h1, h2, by omega, by omega⟩
theorem J_draw4 {id : Nat} {ops : Array Oper} (p1 p2 p3 p4 : List Pl) (hp : plansB ops (pre ops) c.n [p1, p2, p3, p4] = true) (h1 : JR c ops (p1.map (stp ops)) k st Γ) (h2 : JR c ops (p2.map (stp ops)) k st Γ) (h3 : JR c ops (p3.map (stp ops)) k st Γ) (h4 : JR c ops (p4.map (stp ops)) k st Γ) : J c (.code (.region id ops true) :: k) st Γ :=
  J_draws [p1, p2, p3, p4] hp fun p hp => by
    rcases List.mem_cons.1 hp with rfl | hp
    · exact h1
    rcases List.mem_cons.1 hp with rfl | hp
    · exact h2
    rcases List.mem_cons.1 hp with rfl | hp
    · exact h3
    · rw [List.mem_singleton.1 hp]; exact h4
/-- Read again: lengths. -/
theorem RO_lnb {a : List UInt8} [TStr c.P T] (hv : ev st x = some (vs a)) : RO c st Γ ⟨d, .call ⟨.builtin .len, #[x], #[T]⟩, ty, pos, af, g⟩ (.int .i64 a.length) := by
  have := RO_len_str (c := c) (Γ := Γ) (d := d) (ty := ty) (pos := pos) (af := af) (g := g) (T := T) hv
  rwa [bs_size] at this
theorem RO_lls {α : Type} {e : EncT α} {v : Value} {L : List α} {E : TypeId} [ht : TSlice c.P T E] (hv : ev st x = some v) [hr : RdG Γ v e L] : RO c st Γ ⟨d, .call ⟨.builtin .len, #[x], #[T]⟩, ty, pos, af, g⟩ (.int .i64 L.length) := fun a w ha hS => by
  obtain ⟨p, cap, rfl⟩ := (hr.h _ _ _ hS).len
  exact RO_len_slice (c := c) (Γ := Γ) hv a w ha hS

/-! ### numbers -/
theorem opi {op : BinOp} {u : Value} (hr : ∀ w, (binOp op T (.int i m) (.int j n)).run c.P w = .ok u w) (h : JR c ops l k (stput d u st) Γ) (hx : ev st x = some (.int i m) := by rfl) (hy : ev st y = some (.int j n) := by rfl)
    (hg : gOk ops st ⟨d, .binOp op T x y U, ty, pos, af, g⟩ = some true := by rfl) (hd : dOk d c.n = true := by rfl) : JR c ops (⟨⟨d, .binOp op T x y U, ty, pos, af, g⟩, fl, []⟩ :: l) k st Γ :=
  ro h (fun a w ha _ => by simp [execOp, ev_eval ha hx, ev_eval ha hy, run_eqGuard_int, hr]) hg hd
theorem shr (h : JR c ops l k (stput d (.int i r) st) Γ) (hr : m.fdiv (2 ^ (min n.toNat i.bits)) = r := by rfl) (hx : ev st x = some (.int i m) := by rfl) (hy : ev st y = some (.int j n) := by rfl) (hn : 0 ≤ n := by omega)
    (hg : gOk ops st ⟨d, .binOp .shr T x y U, ty, pos, af, g⟩ = some true := by rfl) (hd : dOk d c.n = true := by rfl) : JR c ops (⟨⟨d, .binOp .shr T x y U, ty, pos, af, g⟩, fl, []⟩ :: l) k st Γ := by
  subst hr
  exact opi (fun w => by simp [binOp, Op.shift, Int.not_lt.2 hn]) h hx hy hg hd
theorem shl (h : JR c ops l k (stput d (.int i r) st) Γ) (hr : i.wrap (m * 2 ^ (min n.toNat i.bits)) = r := by rfl) (hx : ev st x = some (.int i m) := by rfl) (hy : ev st y = some (.int j n) := by rfl) (hn : 0 ≤ n := by omega)
    (hg : gOk ops st ⟨d, .binOp .shl T x y U, ty, pos, af, g⟩ = some true := by rfl) (hd : dOk d c.n = true := by rfl) : JR c ops (⟨⟨d, .binOp .shl T x y U, ty, pos, af, g⟩, fl, []⟩ :: l) k st Γ := by
  subst hr
  exact opi (fun w => by simp [binOp, Op.shift, Int.not_lt.2 hn]) h hx hy hg hd
theorem band (h : JR c ops l k (stput d (.int i r) st) Γ) (hr : i.wrap ((BitVec.ofInt i.bits m &&& BitVec.ofInt i.bits n).toNat : Int) = r := by rfl) (hx : ev st x = some (.int i m) := by rfl) (hy : ev st y = some (.int i n) := by rfl)
    (hg : gOk ops st ⟨d, .binOp .and T x y U, ty, pos, af, g⟩ = some true := by rfl) (hd : dOk d c.n = true := by rfl) : JR c ops (⟨⟨d, .binOp .and T x y U, ty, pos, af, g⟩, fl, []⟩ :: l) k st Γ := by
  subst hr
  exact opi (fun w => by simp [binOp, Op.intBits]) h hx hy hg hd
theorem bor (h : JR c ops l k (stput d (.int i r) st) Γ) (hr : i.wrap ((BitVec.ofInt i.bits m ||| BitVec.ofInt i.bits n).toNat : Int) = r := by rfl) (hx : ev st x = some (.int i m) := by rfl) (hy : ev st y = some (.int i n) := by rfl)
    (hg : gOk ops st ⟨d, .binOp .or T x y U, ty, pos, af, g⟩ = some true := by rfl) (hd : dOk d c.n = true := by rfl) : JR c ops (⟨⟨d, .binOp .or T x y U, ty, pos, af, g⟩, fl, []⟩ :: l) k st Γ := by
  subst hr
  exact opi (fun w => by simp [binOp, Op.intBits]) h hx hy hg hd
theorem bxor (h : JR c ops l k (stput d (.int i r) st) Γ) (hr : i.wrap ((BitVec.ofInt i.bits m ^^^ BitVec.ofInt i.bits n).toNat : Int) = r := by rfl) (hx : ev st x = some (.int i m) := by rfl) (hy : ev st y = some (.int i n) := by rfl)
    (hg : gOk ops st ⟨d, .binOp .xor T x y U, ty, pos, af, g⟩ = some true := by rfl) (hd : dOk d c.n = true := by rfl) : JR c ops (⟨⟨d, .binOp .xor T x y U, ty, pos, af, g⟩, fl, []⟩ :: l) k st Γ := by
  subst hr
  exact opi (fun w => by simp [binOp, Op.intBits]) h hx hy hg hd
theorem quo (h : JR c ops l k (stput d (.int i r) st) Γ) (hr : i.wrap (m.tdiv n) = r := by rfl) (hx : ev st x = some (.int i m) := by rfl) (hy : ev st y = some (.int i n) := by rfl) (hn : n ≠ 0 := by omega)
    (hg : gOk ops st ⟨d, .binOp .quo T x y U, ty, pos, af, g⟩ = some true := by rfl) (hd : dOk d c.n = true := by rfl) : JR c ops (⟨⟨d, .binOp .quo T x y U, ty, pos, af, g⟩, fl, []⟩ :: l) k st Γ := by
  subst hr
  exact opi (fun w => by simp [binOp, Op.intDiv, hn]) h hx hy hg hd
theorem rem (h : JR c ops l k (stput d (.int i r) st) Γ) (hr : m.tmod n = r := by rfl) (hx : ev st x = some (.int i m) := by rfl) (hy : ev st y = some (.int i n) := by rfl) (hn : n ≠ 0 := by omega)
    (hg : gOk ops st ⟨d, .binOp .rem T x y U, ty, pos, af, g⟩ = some true := by rfl) (hd : dOk d c.n = true := by rfl) : JR c ops (⟨⟨d, .binOp .rem T x y U, ty, pos, af, g⟩, fl, []⟩ :: l) k st Γ := by
  subst hr
  exact opi (fun w => by simp [binOp, Op.intDiv, hn]) h hx hy hg hd
theorem ngr (h : JR c ops l k (stput d (.int i r) st) Γ) (hr : i.wrap (0 - n) = r := by rfl) (hv : ev st x = some (.int i n) := by rfl) (hg : gOk ops st ⟨d, .unOp .neg T x, ty, pos, af, g⟩ = some true := by rfl) (hd : dOk d c.n = true := by rfl) : JR c ops (⟨⟨d, .unOp .neg T x, ty, pos, af, g⟩, fl, []⟩ :: l) k st Γ := by
  subst hr; exact ng h hv hg hd
theorem cpl (h : JR c ops l k (stput d (.int i r) st) Γ) (hr : i.wrap ((BitVec.ofInt i.bits (if i.signed then -1 else i.max) ^^^ BitVec.ofInt i.bits n).toNat : Int) = r := by rfl) (hv : ev st x = some (.int i n) := by rfl) (hg : gOk ops st ⟨d, .unOp .xor T x, ty, pos, af, g⟩ = some true := by rfl) (hd : dOk d c.n = true := by rfl) : JR c ops (⟨⟨d, .unOp .xor T x, ty, pos, af, g⟩, fl, []⟩ :: l) k st Γ := by
  subst hr
  exact ro h (fun a w ha _ => by simp [execOp, ev_eval ha hv, Op.unary, Op.intBits]) hg hd
theorem cvr [TInt c.P S i] [TInt c.P T j] {i' : IntKind} (h : JR c ops l k (stput d (.int j r) st) Γ) (hr : j.wrap n = r := by rfl) (hv : ev st x = some (.int i' n) := by rfl) (hg : gOk ops st ⟨d, .convert S T x, ty, pos, af, g⟩ = some true := by rfl) (hd : dOk d c.n = true := by rfl) : JR c ops (⟨⟨d, .convert S T x, ty, pos, af, g⟩, fl, []⟩ :: l) k st Γ := by
  subst hr; exact cv h hv hg hd

/-! ### pointers and nil -/
theorem run_eqGuard_ptr {P : Program} {op : BinOp} {p q : Option Addr} {w : World} : (eqGuard op T x y (.pointer p) (.pointer q)).run P w = .ok () w := by
  unfold eqGuard; split <;> rfl
theorem pointee_of {P : Program} {E : TypeId} (h : P.underlying T = some (.pointer E)) : P.underlying T = some (.pointer (P.pointee T)) := by
  rw [h]; unfold Program.pointee; rw [h]
theorem pen {E : TypeId} {p : Option Addr} [ht : TPtr c.P T E] (h : JR c ops l k (stput d (.bool p.isNone) st) Γ) (hx : ev st x = some (.pointer p) := by rfl) (hy : ev st y = some (.pointer none) := by rfl) (hg : gOk ops st ⟨d, .binOp .eql T x y U, ty, pos, af, g⟩ = some true := by rfl) (hd : dOk d c.n = true := by rfl) :
    JR c ops (⟨⟨d, .binOp .eql T x y U, ty, pos, af, g⟩, fl, []⟩ :: l) k st Γ :=
  ro h (fun a w ha _ => by simp [execOp, ev_eval ha hx, ev_eval ha hy, run_eqGuard_ptr, run_eql_pointer_nil w T p (pointee_of ht.h)]) hg hd
theorem pnn {E : TypeId} {p : Option Addr} [ht : TPtr c.P T E] (h : JR c ops l k (stput d (.bool (!p.isNone)) st) Γ) (hx : ev st x = some (.pointer p) := by rfl) (hy : ev st y = some (.pointer none) := by rfl) (hg : gOk ops st ⟨d, .binOp .neq T x y U, ty, pos, af, g⟩ = some true := by rfl) (hd : dOk d c.n = true := by rfl) :
    JR c ops (⟨⟨d, .binOp .neq T x y U, ty, pos, af, g⟩, fl, []⟩ :: l) k st Γ :=
  ro h (fun a w ha _ => by simp [execOp, ev_eval ha hx, ev_eval ha hy, run_eqGuard_ptr, run_neq_pointer_nil w T p (pointee_of ht.h)]) hg hd
end

/-! ### bytes -/
def byteDec : List Value → UInt8
  | [.int _ n] => UInt8.ofNat n.toNat
  | _ => 0
def byteE : EncT UInt8 where
  enc b := [.int .u8 b.toNat]
  dec := byteDec
  sz := 1
  dflt := 0
  len _ := rfl
  ok _ := rfl
  pos := by decide
theorem flat_bytes (L : List UInt8) : flat byteE L = L.map fun b => Value.int .u8 b.toNat := by
  induction L with
  | nil => rfl
  | cons b L ih => rw [flat_cons, ih]; rfl
theorem strCells_bs (L : List UInt8) : Lib.strCells (bs L) = flat byteE L := by
  rw [flat_bytes]; simp [Lib.strCells]
section
variable {c : Ctx} {k : List Item} {st : St} {Γ : List Assn} {d : Option Tmp} {ty : TypeId} {pos : String} {af : Array Edge} {g : Option (Nat × Bool)} {ops : Array Oper} {rs : List Oper} {l : List Stp} {fl : Bool}
variable {x y : Operand} {T U S : TypeId} {v : Value}

theorem run_append_str_tgt {B w : World} {F : Assn} {P : Program} {E : TypeId} {t : Value} {K X : List UInt8} {tT sT ty : TypeId} (ht : P.underlying tT = some (.slice E)) (hu : P.underlying sT = some .string) (hz : (P.info? E).map (fun i => (i.size, i.bytes)) = some (1, 1)) (hZ : (P.info? E).bind (·.zero) = some (.int .u8 0))
    (hT : Tgt E byteE t K Γ B F w) (hb : K.length + X.length ≤ 140737488355328) :
    ∃ v' w', (Builtin.append_ #[tT, sT] ty #[t, vs X]).run P w = .ok v' w' ∧ Sat B F (sl E byteE v' (K ++ X) :: Γ) w' := by
  obtain ⟨i, hi, hib⟩ := Option.map_eq_some_iff.1 hz
  have hZ' : i.zero = some (.int .u8 0) := by rw [hi] at hZ; exact hZ
  simp only [Prod.mk.injEq] at hib
  obtain ⟨hi1, hi2⟩ := hib
  have hlenKX : (K ++ X).length = K.length + X.length := List.length_append
  have hzs : (Value.int .u8 0).cells.size = 1 := rfl
  have grown : ∀ (old : Nat), Sat B F Γ w → Sat B F (sl E byteE (.slice (some ⟨w.heap.size, 0, none⟩) (K.length + X.length) (grownCap w (K.length + X.length) old E)) (K ++ X) :: Γ)
      (w.drew.alloc (.cells ((flat byteE K).toArray ++ (flat byteE X).toArray ++ Builtin.zeroCells (Value.int .u8 0).cells (grownCap w (K.length + X.length) old E - (K.length + X.length))) E)) := by
    intro old hS
    have hge := grownCap_ge w (K.length + X.length) old E
    have := sl_new (e := byteE) (L := K ++ X) (E := E) (cap := grownCap w (K.length + X.length) old E) (cur := (flat byteE K).toArray ++ (flat byteE X).toArray ++ Builtin.zeroCells (Value.int .u8 0).cells (grownCap w (K.length + X.length) old E - (K.length + X.length))) hS.drew (by rw [hlenKX]; exact hge) (grownCap_le_maxLen w _ old E (by unfold maxLen; omega)) (by
      simp only [Array.size_append, List.size_toArray, size_zeroCells, hzs, flat_length, ← Nat.add_mul]
      show (K.length + X.length) * 1 + _ = _ * 1
      omega) (by
      simp only [Array.toList_append, List.append_assoc]
      rw [← List.append_assoc, ← flat_append, ← flat_length]
      exact List.take_left)
    rw [hlenKX] at this
    exact this
  have hXs : (bs X).size = X.length := bs_size X
  rcases hT with ⟨rfl, rfl, hS⟩ | ⟨g, cap, cur, rfl, hS, h1, h2, h3, h4⟩
  · by_cases hx0 : X = []
    · subst hx0
      refine ⟨.slice none 0 0, w, ?_, by simpa using sl_nil hS⟩
      simp [Builtin.append_, run_underlying ht, run_underlying hu, run_sizeOf (szOf_of hz), Builtin.lenOf, Builtin.firstCells, ByteArray.size]
    · have h0 : 0 < X.length := List.length_pos_iff.2 hx0
      have hr := run_append_nil_string (P := P) w tT sT ty E i _ ht hu hi hZ' (bs X) (by rw [hXs]; exact h0) (by rw [hXs]; simp at hb; omega) (by rw [hXs, hi2]; simp at hb; omega)
      refine ⟨_, _, hr, ?_⟩
      have := grown 0 hS
      have hd : (bs X).data.map (fun b => Value.int .u8 b.toNat) = (flat byteE X).toArray := by rw [flat_bytes]; simp
      rw [hXs, hd]
      simpa [flat_nil] using this
  · have hg := (hS.blk .here).2
    have hcs : cur.size = cap := by rw [h3]; exact Nat.mul_one _
    by_cases hroom : K.length + X.length ≤ cap
    · have hr := Lib.run_append_room_string (P := P) w tT sT ty E i ht hu hi hi1 g K.length cap cur hg (bs X) (by rw [hXs]; exact hroom) (by rw [hXs, hcs]; exact hroom)
      refine ⟨_, _, hr, ?_⟩
      rw [hXs, strCells_bs]
      have := sl_close (e := byteE) (L := K ++ X) (cap := cap) (cur := (cur.toList.take K.length ++ flat byteE X ++ cur.toList.drop (K.length + X.length)).toArray) (hS.write (setRow_heap_eq hg) rfl rfl rfl) (by rw [hlenKX]; exact hroom) h2 (by
        simp only [flat_length, List.size_toArray, List.length_append, List.length_take, List.length_drop, Array.length_toList]
        show _ + X.length * 1 + _ = cap * 1
        omega) (by
        have h4' : cur.toList.take (K.length * 1) = flat byteE K := h4
        rw [Nat.mul_one] at h4'
        show List.take _ (cur.toList.take K.length ++ flat byteE X ++ cur.toList.drop (K.length + X.length)) = _
        rw [h4', ← flat_append, ← flat_length]
        exact List.take_left)
      rw [hlenKX] at this
      exact this
    · have holds : ∀ j u, (flat byteE K)[j]? = some u → w.cell? ((⟨g, 0, none⟩ : Addr).add j) = some u := by
        intro j u hu
        have hj : j < K.length * 1 := by
          have := flat_length (e := byteE) K
          rw [show byteE.sz = 1 from rfl] at this
          rw [← this]
          rcases Nat.lt_or_ge j (flat byteE K).length with h | h
          · exact h
          · rw [List.getElem?_eq_none h] at hu; cases hu
        rw [add_none, Nat.zero_add]
        refine cell_of (l := cur.toList) hg ?_
        rw [← h4, List.getElem?_take, if_pos (show j < K.length * byteE.sz from hj)] at hu
        exact hu
      have hr := Lib.run_append_grow_string (P := P) w tT sT ty E i _ ht hu hi hZ' ⟨g, 0, none⟩ K.length cap (flat byteE K) (by rw [flat_length, hi1]; rfl) holds (bs X) (by rw [hXs]; omega) (by rw [hXs]; omega) (by
        rw [hXs, hi2]
        exact growslice_fits (by omega) (by omega))
      refine ⟨_, _, hr, ?_⟩
      rw [hXs, strCells_bs]
      exact grown cap hS.tail
/-- append(b, s...), s a string. -/
theorem aps {E : TypeId} {K X : List UInt8} {Γ' : List Assn} [ht : TSlice c.P T E] [hu : TStr c.P S] [hz : ESize c.P E 1 1] [hZ : TZero c.P E (.int .u8 0)] (hx : ev st x = some v) (hy : ev st y = some (vs X))
    [hs : SelS Γ v E byteE K Γ'] (h : ∀ v', JS c ops rs l k (stput d v' st) (sl E byteE v' (K ++ X) :: Γ')) (hb : K.length + X.length ≤ 140737488355328 := by omega)
    (hg : gOk ops st ⟨d, .call ⟨.builtin .append, #[x, y], #[T, S]⟩, ty, pos, af, g⟩ = some true := by rfl) (hd : dOk d c.n = true := by rfl) : JR c ops (⟨⟨d, .call ⟨.builtin .append, #[x, y], #[T, S]⟩, ty, pos, af, g⟩, false, rs⟩ :: l) k st Γ := by
  intro b cs a w h1 h2 h3 h4
  unfold CR
  simp only [gOk_wanted hg h3, if_true, Bool.false_eq_true, if_false]
  obtain ⟨v', w', hr, hS⟩ := run_append_str_tgt (ty := ty) ht.h hu.h hz.h hZ.z (tgt_sl (h4.perm hs.h.perm)) hb
  rw [run_builtin (vs := [v, vs X]) (by simp [ev_eval h3 hx, ev_eval h3 hy]) (r := .ok (.value v') w') (fun cs => by simp [builtin, hr])]
  exact JS_of (h v') h1 h2 (h3.put hd _) hS

/-- string(b), of bytes that are read. -/
theorem RO_bytes_str {E : TypeId} {L : List UInt8} [hs : TSlice c.P S E] [he : TInt c.P E .u8] [ht : TStr c.P T] (hv : ev st x = some v) [hr : RdG Γ v byteE L] : RO c st Γ ⟨d, .convert S T x, ty, pos, af, g⟩ (vs L) := fun a w ha hS => by
  have hev := ev_eval ha hv
  rcases hr.h _ _ _ hS with ⟨rfl, rfl⟩ | ⟨b, off, cap, cur, E', fz, rfl, h2, h3, h4⟩
  · have := run_convert_bytes_string w S T E none 0 0 hs.h he.h ht.h (P := c.P)
    simp only [execOp, hev, Sem.run_bind, this]
    rfl
  · have := run_convert_bytes_back (P := c.P) w S T E ⟨b, off, none⟩ cap L hs.h he.h ht.h (fun j hj => by
      rw [add_none]
      refine cell_of (l := cur.toList) h3 ?_
      rw [h4 j (by show j < L.length * 1; omega), flat_bytes, List.getElem?_map, List.getElem?_eq_getElem hj]; rfl)
    simp only [execOp, hev, Sem.run_bind, this]
    rfl
theorem bst {E : TypeId} {L : List UInt8} [hs : TSlice c.P S E] [he : TInt c.P E .u8] [ht : TStr c.P T] (hv : ev st x = some v) [hr : RdG Γ v byteE L] (h : JR c ops l k (stput d (vs L) st) Γ)
    (hg : gOk ops st ⟨d, .convert S T x, ty, pos, af, g⟩ = some true := by rfl) (hd : dOk d c.n = true := by rfl) : JR c ops (⟨⟨d, .convert S T x, ty, pos, af, g⟩, fl, []⟩ :: l) k st Γ :=
  ro h (RO_bytes_str hv) hg hd

/-! ### what a call that makes new blocks alone makes known -/
theorem Sat.fresh {B w w' : World} {F : Assn} {b : Nat} {o : Obj} (h : Sat B F Γ w) (hb : Below w.heap.size w w') (hge : w.heap.size ≤ b) (hg : w'.heap[b]? = some o) : Sat B F (Sl.blk b o :: Γ) w' := by
  obtain ⟨h0, m, hm, h1, h2, d, l1, l2, hF, hs⟩ := h
  have hnone : ∀ h' : Hp, Hp.le h' m → h' b = none := fun h' l => by
    cases e : h' b with
    | none => rfl
    | some x =>
      have := (hm _ _ (l _ _ e)).2
      rw [Array.getElem?_eq_none hge] at this; cases this
  have dm : Hp.disj (Hp.one b o) m := fun q => by
    by_cases e : q = b
    · right; subst e; exact hnone m (Hp.le_refl _)
    · left; simp [Hp.one, e]
  refine ⟨h0.trans (hb.mono h0.size), Hp.union (Hp.one b o) m, ?_, h1, Hp.union (Hp.one b o) h2, ?_, Hp.le_trans l1 (Hp.le_union_right dm), Hp.union_le (Hp.le_union_left _ _) (Hp.le_trans l2 (Hp.le_union_right dm)), hF, Hp.one b o, h2, Hp.disj_le dm (Hp.le_refl _) l2, Hp.le_union_left _ _, Hp.le_union_right (Hp.disj_le dm (Hp.le_refl _) l2), by simp [Sl.blk, Hp.one], hs⟩
  · intro q o' e
    unfold Hp.union at e
    by_cases hbn : q = b
    · subst hbn
      simp [Hp.one] at e
      subst e
      exact ⟨Nat.le_trans h0.size hge, hg⟩
    · simp [Hp.one, hbn] at e
      obtain ⟨h5, h6⟩ := hm q o' e
      have hlt : q < w.heap.size := by
        rcases Nat.lt_or_ge q w.heap.size with h | h
        · exact h
        · rw [Array.getElem?_eq_none h] at h6; cases h6
      exact ⟨h5, by rw [hb.block q hlt]; exact h6⟩
  · exact Hp.disj_symm (Hp.disj_union (Hp.disj_le dm (Hp.le_refl _) l1) (Hp.disj_symm d))
end
section
variable {c : Ctx} {k : List Item} {st : St} {Γ : List Assn} {d : Option Tmp} {ty : TypeId} {pos : String} {af : Array Edge} {g : Option (Nat × Bool)} {ops : Array Oper} {rs : List Oper} {l : List Stp} {fl : Bool}
/-! ### addresses that are the same; unsafe's conversions; an outer function; unsafe's strings -/
variable {x y : Operand} {T U S : TypeId}
theorem pes {E : TypeId} {p : Addr} [ht : TPtr c.P T E] {sz bb : Nat} [hz : ESize c.P E sz bb] (h : JR c ops l k (stput d (.bool true) st) Γ) (hx : ev st x = some (.pointer (some p)) := by rfl) (hy : ev st y = some (.pointer (some p)) := by rfl) (hg : gOk ops st ⟨d, .binOp .eql T x y U, ty, pos, af, g⟩ = some true := by rfl) (hd : dOk d c.n = true := by rfl) :
    JR c ops (⟨⟨d, .binOp .eql T x y U, ty, pos, af, g⟩, fl, []⟩ :: l) k st Γ :=
  ro h (fun a w ha _ => by
    obtain ⟨j, hj, _⟩ := Option.map_eq_some_iff.1 hz.h
    simp [execOp, ev_eval ha hx, ev_eval ha hy, run_eqGuard_ptr, run_eql_ptr_same w p ht.h hj]) hg hd
theorem pns {E : TypeId} {p : Addr} [ht : TPtr c.P T E] {sz bb : Nat} [hz : ESize c.P E sz bb] (h : JR c ops l k (stput d (.bool false) st) Γ) (hx : ev st x = some (.pointer (some p)) := by rfl) (hy : ev st y = some (.pointer (some p)) := by rfl) (hg : gOk ops st ⟨d, .binOp .neq T x y U, ty, pos, af, g⟩ = some true := by rfl) (hd : dOk d c.n = true := by rfl) :
    JR c ops (⟨⟨d, .binOp .neq T x y U, ty, pos, af, g⟩, fl, []⟩ :: l) k st Γ :=
  ro h (fun a w ha _ => by
    obtain ⟨j, hj, _⟩ := Option.map_eq_some_iff.1 hz.h
    simp [execOp, ev_eval ha hx, ev_eval ha hy, run_eqGuard_ptr, Lib.run_neq_ptr_same w p ht.h hj]) hg hd
theorem upc {E F : TypeId} {b o sz bb : Nat} {cl : List Value} {fz : Nat × Nat} [hs : TPtr c.P S E] [hz : ESize c.P E (sz + 1) bb] (hv : ev st x = some (.pointer (some ⟨b, o, none⟩))) [hi : InG Γ b (.cells ⟨cl⟩ F fz)] (h : JR c ops l k (stput d (.pointer (some ⟨b, o, none⟩)) st) Γ) (ht : c.P.underlying T = some .unsafePointer := by kernel_rfl) {n : Nat} (hn : cl.length = n := by rfl) (ho : Nat.blt o n = true := by rfl)
    (hg : gOk ops st ⟨d, .convert S T x, ty, pos, af, g⟩ = some true := by rfl) (hd : dOk d c.n = true := by rfl) : JR c ops (⟨⟨d, .convert S T x, ty, pos, af, g⟩, fl, []⟩ :: l) k st Γ :=
  ro h (fun a w ha hS => by
    obtain ⟨_, hsel⟩ := hi.h
    obtain ⟨j, hj, hjs⟩ := Option.map_eq_some_iff.1 hz.h
    simp only [Prod.mk.injEq] at hjs
    have hb := (hS.blk hsel).2
    have := Lib.run_to_unsafe w (e := F) (cells := cl.length) ⟨b, o, none⟩ hs.h ht hj (by omega) (by simp [World.shape?, hb]) (by rw [hn]; exact Nat.le_of_ble_eq_true ho)
    simp [execOp, ev_eval ha hv, this]) hg hd
theorem dpc {E F : TypeId} {b o sz bb : Nat} {cl : List Value} {fz : Nat × Nat} [ht : TPtr c.P T E] [hz : ESize c.P E sz bb] (hv : ev st x = some (.pointer (some ⟨b, o, none⟩))) [hi : InG Γ b (.cells ⟨cl⟩ F fz)] {n : Nat} (hl : liesAt c.P c.P.depth F (n / c.P.cellsOf F) o E 1 = true) (h : JR c ops l k (stput d (.pointer (some ⟨b, o, none⟩)) st) Γ) (hn : cl.length = n := by rfl) (hs : c.P.underlying S = some .unsafePointer := by kernel_rfl)
    (hg : gOk ops st ⟨d, .convert S T x, ty, pos, af, g⟩ = some true := by rfl) (hd : dOk d c.n = true := by rfl) : JR c ops (⟨⟨d, .convert S T x, ty, pos, af, g⟩, fl, []⟩ :: l) k st Γ :=
  ro h (fun a w ha hS => by
    obtain ⟨_, hsel⟩ := hi.h
    obtain ⟨j, hj, hjs⟩ := Option.map_eq_some_iff.1 hz.h
    have hb := (hS.blk hsel).2
    have := Lib.run_from_unsafe w (e := F) (cells := cl.length) ⟨b, o, none⟩ hs ht.h hj (by simp [World.shape?, hb]) (by rw [hn]; exact hl)
    simp [execOp, ev_eval ha hv, this]) hg hd
/-- A call of a function without a body, that reads nothing. -/
theorem cx {f : FuncId} {xs : List Operand} {ats : Array TypeId} {us : List Value} {v : Value} (hr : ∀ w, (callFunc f ⟨us⟩).run c.P w = .ok (.value v) w) (h : JS c ops rs l k (stput d v st) Γ) (hvs : evl st xs = some us := by rfl) (hg : gOk ops st ⟨d, .call ⟨.value (.func f), ⟨xs⟩, ats⟩, ty, pos, af, g⟩ = some true := by rfl) (hd : dOk d c.n = true := by rfl) :
    JR c ops (⟨⟨d, .call ⟨.value (.func f), ⟨xs⟩, ats⟩, ty, pos, af, g⟩, false, rs⟩ :: l) k st Γ :=
  JR_rv hg hd (fun a w ha _ => by
    have hargs : (⟨xs⟩ : Array Operand).map a.eval = ⟨us⟩ := by rw [← (evl_evs hvs).map ha]; rw [← Array.toList_inj]; simp
    have e : a.eval (.func f) = .func (.func f) #[] #[] := rfl
    simp only [execOp, resolve, hargs, e, Deferred.ofValue, Sem.run_bind, Sem.run_pure, Result.andThen_ok, invoke]
    simpa using hr w) h
/-- unsafe.SliceData, of a slice with room. -/
theorem usd {A : TypeId} {p : Addr} {n m : Nat} (h : JS c ops rs l k (stput d (.pointer (some p)) st) Γ) (hv : ev st x = some (.slice (some p) n m) := by rfl) (hm : m ≠ 0 := by omega) (hg : gOk ops st ⟨d, .call ⟨.builtin .unsafeSliceData, #[x], #[A]⟩, ty, pos, af, g⟩ = some true := by rfl) (hd : dOk d c.n = true := by rfl) :
    JR c ops (⟨⟨d, .call ⟨.builtin .unsafeSliceData, #[x], #[A]⟩, ty, pos, af, g⟩, false, rs⟩ :: l) k st Γ :=
  JR_rv hg hd (fun a w ha hS => by
    refine run_builtin (vs := [.slice (some p) n m]) (by simp [ev_eval ha hv]) fun cs => ?_
    simp [builtin, Lib.run_unsafeSliceData_row _ _ _ _ _ _ hm]) h
/-- unsafe.String, of all that a row holds up to a length: those cells are frozen. -/
theorem uss {A I E b : Nat} {cur : Array Value} {L : List UInt8} {Γ' : List Assn} [ht : TPtr c.P A E] [hs : SelG Γ b (.cells cur E (0, 0)) Γ'] (hc : c.P.cellsOf E = 1) (h : ∀ fz, JS c ops rs l k (stput d (vs L) st) (blk b (.cells cur E fz) :: Γ')) (hL : L ≠ []) (hn : L.length ≤ cur.size) (h63 : L.length ≤ 9223372036854775807) (hcur : cur.toList.take L.length = flat byteE L)
    (hx : ev st x = some (.pointer (some ⟨b, 0, none⟩)) := by rfl) (hy : ev st y = some (.int .i64 L.length) := by rfl) (hg : gOk ops st ⟨d, .call ⟨.builtin .unsafeString, #[x, y], #[A, I]⟩, ty, pos, af, g⟩ = some true := by rfl) (hd : dOk d c.n = true := by rfl) :
    JR c ops (⟨⟨d, .call ⟨.builtin .unsafeString, #[x, y], #[A, I]⟩, ty, pos, af, g⟩, false, rs⟩ :: l) k st Γ := by
  intro b' cs a w h1 h2 h3 h4
  unfold CR
  simp only [gOk_wanted hg h3, if_true, Bool.false_eq_true, if_false]
  have hb := (h4.blk hs.h).2
  have hr := Lib.run_unsafeString_row (P := c.P) w A I ty E ht.h hc b cur.size (by simp [World.shape?, hb]) L hL hn h63 (fun j q hq => by
    rw [add_none, Nat.zero_add]
    refine cell_of (l := cur.toList) hb ?_
    have hj : j < L.length := (List.getElem?_eq_some_iff.1 hq).1
    have : (cur.toList.take L.length)[j]? = (flat byteE L)[j]? := by rw [hcur]
    rw [List.getElem?_take, if_pos hj, flat_bytes, List.getElem?_map, hq] at this
    exact this)
  rw [run_builtin (vs := [.pointer (some ⟨b, 0, none⟩), .int .i64 L.length]) (by simp [ev_eval h3 hx, ev_eval h3 hy]) (r := .ok (.value (vs L)) (w.freeze ⟨b, 0, none⟩ L.length)) (fun cs => by simp [builtin, hr])]
  have hlen : L.length ≠ 0 := fun e => hL (List.length_eq_zero_iff.1 e)
  have hheap : (w.freeze ⟨b, 0, none⟩ L.length).heap = w.heap.setIfInBounds b (.cells cur E (0, L.length)) := by
    have hlt : b < w.heap.size := (Array.getElem?_eq_some_iff.1 hb).1
    unfold World.freeze
    rw [if_neg hlen]
    apply Array.ext_getElem?
    intro j
    simp only [Array.getElem?_modify]
    by_cases e : b = j
    · subst e; rw [if_pos rfl, hb]; simp [hlt]
    · rw [if_neg e, Array.getElem?_setIfInBounds_ne e]
  have hw : (w.freeze ⟨b, 0, none⟩ L.length).os = w.os ∧ (w.freeze ⟨b, 0, none⟩ L.length).tape = w.tape ∧ (w.freeze ⟨b, 0, none⟩ L.length).output = w.output := by
    unfold World.freeze
    rw [if_neg hlen]; exact ⟨rfl, rfl, rfl⟩
  exact JS_of (h (0, L.length)) h1 h2 (h3.put hd _) (upd_sat h4 hs.h hheap hw.1 hw.2.1 hw.2.2)
/-- A slice that is read, stored. -/
theorem sro {α : Type} {e : EncT α} {L : List α} {E b o bb : Nat} {cl cl' : List Value} {Γ' : List Assn} {v : Value} [hs : SelG Γ b (.cells ⟨cl⟩ E (0, 0)) Γ'] [hz : ESize c.P T 1 bb] (hx : ev st x = some (.pointer (some ⟨b, o, none⟩))) (hy : ev st y = some v) [hr : RdG Γ v e L] (h : JS c ops rs l k (stput d undef st) (blk b (.cells ⟨cl'⟩ E (0, 0)) :: Γ'))
    (hp : PutN cl o [v] cl' := by (repeat constructor)) (hg : gOk ops st ⟨d, .store T x y, ty, pos, af, g⟩ = some true := by rfl) (hd : dOk d c.n = true := by rfl) : JR c ops (⟨⟨d, .store T x y, ty, pos, af, g⟩, false, rs⟩ :: l) k st Γ :=
  JR_fact (p := ∃ p n m, v = .slice p n m) (fun w hS => let ⟨p, m, hv⟩ := (hr.h _ _ _ hS).len; ⟨p, _, m, hv⟩) fun ⟨p, n, m, hv⟩ => by
    refine JR_store (vs := [v]) hg hd hx hy (szOf_of hz.h) (by rw [hv]; rfl) rfl (by rw [hv]; rfl) hp h
/-- append(s, xs...), s owned, xs read. -/
theorem apo {α : Type} {e : EncT α} {K X : List α} {E bb : Nat} {z s v : Value} {Γ' : List Assn} [ht : TSlice c.P T E] [hz : ESize c.P E e.sz bb] [hZ : TZero c.P E z] (hx : ev st x = some v) (hy : ev st y = some s) [hs : SelS Γ v E e K Γ'] [hr : RdG Γ s e X] (h : ∀ v', JS c ops rs l k (stput d v' st) (sl E e v' (K ++ X) :: Γ'))
    (hb : (K.length + X.length) * bb ≤ 140737488355328) (hm : K.length + X.length ≤ 9223372036854775807) (hzl : z.cells.size = e.sz := by rfl) (hg : gOk ops st ⟨d, .call ⟨.builtin .append, #[x, y], #[T, T]⟩, ty, pos, af, g⟩ = some true := by rfl) (hd : dOk d c.n = true := by rfl) :
    JR c ops (⟨⟨d, .call ⟨.builtin .append, #[x, y], #[T, T]⟩, ty, pos, af, g⟩, false, rs⟩ :: l) k st Γ :=
  apd hx hy (fun B F w hS => tgt_sl (hS.perm hs.h.perm)) (fun B F w hS => hr.h B F w hS) h hb hm hzl hg hd
/-- s == nil. -/
theorem run_eqGuard_slice {P : Program} {op : BinOp} {p q : Option Addr} {n m n' m' : Nat} {w : World} : (eqGuard op T x y (.slice p n m) (.slice q n' m')).run P w = .ok () w := by
  unfold eqGuard; split <;> rfl
theorem sen {α : Type} {e : EncT α} {L : List α} {E : TypeId} {v : Value} [ht : TSlice c.P T E] (hx : ev st x = some v) [hr : RdG Γ v e L] (h1 : v = .slice none 0 0 → L = [] → JR c ops l k (stput d (.bool true) st) Γ) (h0 : (∀ n m, v ≠ .slice none n m) → JR c ops l k (stput d (.bool false) st) Γ) (hy : ev st y = some (.slice none 0 0) := by rfl)
    (hg : gOk ops st ⟨d, .binOp .eql T x y U, ty, pos, af, g⟩ = some true := by rfl) (hd : dOk d c.n = true := by rfl) : JR c ops (⟨⟨d, .binOp .eql T x y U, ty, pos, af, g⟩, fl, []⟩ :: l) k st Γ := by
  refine JR_fact (p := (v = .slice none 0 0 ∧ L = []) ∨ ∃ a n m, v = .slice (some a) n m) (fun w hS => ?_) ?_
  · rcases hr.h _ _ _ hS with h | ⟨b, off, cap, cur, E, fz, h1, h2, h3, h4⟩
    · exact .inl h
    · exact .inr ⟨_, _, _, h1⟩
  · rintro (⟨hv, hL⟩ | ⟨a, n, m, hv⟩)
    · refine ro (h1 hv hL) (fun ac w ha _ => ?_) hg hd
      subst hv
      simp [execOp, ev_eval ha hx, ev_eval ha hy, run_eqGuard_slice, Lib.run_eql_slice_nil w T E none 0 0 0 0 ht.h]
    · refine ro (h0 fun n' m' e => by rw [hv] at e; cases e) (fun ac w ha _ => ?_) hg hd
      subst hv
      simp [execOp, ev_eval ha hx, ev_eval ha hy, run_eqGuard_slice, Lib.run_eql_slice_nil w T E (some a) n m 0 0 ht.h]
/-- A new map. -/
theorem mkm {κ α : Type} [DecidableEq κ] {T : TypeId} (M : MapT κ α) (h : ∀ b, JS c ops rs l k (stput d (.map (some b)) st) (mp M b [] :: Γ)) (hg : gOk ops st ⟨d, .makeMap T none, ty, pos, af, g⟩ = some true := by rfl) (hd : dOk d c.n = true := by rfl) :
    JR c ops (⟨⟨d, .makeMap T none, ty, pos, af, g⟩, false, rs⟩ :: l) k st Γ := by
  intro b cs a w h1 h2 h3 h4
  unfold CR
  simp only [gOk_wanted hg h3, if_true, Bool.false_eq_true, if_false]
  have : (execOp a.eval ⟨d, .makeMap T none, ty, pos, af, g⟩).run c.P w = .ok (.value (.map (some w.heap.size))) (w.alloc (.map #[] 0)) := by
    simp [execOp, Instr.makeMap]
  rw [this]
  exact JS_of (h w.heap.size) h1 h2 (h3.put hd _) (mp_close (h4.alloc _) ⟨rfl, by simp, by simp⟩)
end
end Go.Proofs.YtaeefjcbmkiiaaaGreatDoor.Sl
