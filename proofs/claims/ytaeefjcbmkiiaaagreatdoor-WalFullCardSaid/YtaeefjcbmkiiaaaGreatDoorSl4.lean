/- What each operation does, said of temporaries and memory: reads of memory, new variables, stores, calls; strings. -/
import Derived.Test.YtaeefjcbmkiiaaaGreatDoorSl3
namespace Go.Proofs.YtaeefjcbmkiiaaaGreatDoor.Sl
open Go Go.RowKit

/-! ### blocks of the list, found by their names -/
class InG (Γ : List Assn) (b : Nat) (o : outParam Obj) : Prop where
  h : ∃ Γ', Sel Γ (blk b o) Γ'
instance InG.here {Γ : List Assn} {b : Nat} {o : Obj} : InG (blk b o :: Γ) b o := ⟨_, .here⟩
instance (priority := low) InG.there {Γ : List Assn} {b : Nat} {o : Obj} {A : Assn} [h : InG Γ b o] : InG (A :: Γ) b o := let ⟨_, s⟩ := h.h; ⟨_, .there s⟩
/-- .. and what it stands beside. -/
class SelG (Γ : List Assn) (b : Nat) (o : outParam Obj) (Γ' : outParam (List Assn)) : Prop where
  h : Sel Γ (blk b o) Γ'
instance SelG.here {Γ : List Assn} {b : Nat} {o : Obj} : SelG (blk b o :: Γ) b o Γ := ⟨.here⟩
instance (priority := low) SelG.there {Γ Γ' : List Assn} {b : Nat} {o : Obj} {A : Assn} [h : SelG Γ b o Γ'] : SelG (A :: Γ) b o (A :: Γ') := ⟨.there h.h⟩

/-- n of a list's values from a place on. -/
inductive Take : List Value → Nat → List Value → Prop
  | zero {l : List Value} : Take l 0 []
  | succ {x : Value} {l vs : List Value} {n : Nat} : Take l n vs → Take (x :: l) (n + 1) (x :: vs)
inductive GetN : List Value → Nat → Nat → List Value → Prop
  | here {l vs : List Value} {n : Nat} : Take l n vs → GetN l 0 n vs
  | there {x : Value} {l vs : List Value} {o n : Nat} : GetN l o n vs → GetN (x :: l) (o + 1) n vs
/-- Values laid over a list's from a place on. -/
inductive PutN : List Value → Nat → List Value → List Value → Prop
  | nil {l : List Value} : PutN l 0 [] l
  | put {x v : Value} {l vs l' : List Value} : PutN l 0 vs l' → PutN (x :: l) 0 (v :: vs) (v :: l')
  | skip {x v : Value} {l vs l' : List Value} {n : Nat} : PutN l n (v :: vs) l' → PutN (x :: l) (n + 1) (v :: vs) (x :: l')
theorem Take.get {l vs : List Value} {n : Nat} (h : Take l n vs) : vs.length = n ∧ ∀ i, i < n → l[i]? = vs[i]? := by
  induction h with
  | zero => exact ⟨rfl, fun i hi => by omega⟩
  | succ _ ih => exact ⟨by simp [ih.1], fun i hi => by cases i with | zero => rfl | succ i => simpa using ih.2 i (by omega)⟩
theorem GetN.get {l vs : List Value} {o n : Nat} (h : GetN l o n vs) : vs.length = n ∧ ∀ i, i < n → l[o + i]? = vs[i]? := by
  induction h with
  | here h => exact ⟨h.get.1, fun i hi => by rw [Nat.zero_add]; exact h.get.2 i hi⟩
  | there _ ih => exact ⟨ih.1, fun i hi => by rw [show ∀ o : Nat, o + 1 + i = (o + i) + 1 by intro o; omega]; simpa using ih.2 i hi⟩
theorem PutN.get {l vs l' : List Value} {o : Nat} (h : PutN l o vs l') : o + vs.length ≤ l.length ∧ l'.length = l.length ∧ ∀ i, l'[i]? = if o ≤ i ∧ i < o + vs.length then vs[i - o]? else l[i]? := by
  induction h with
  | nil => exact ⟨by simp, rfl, fun i => by rw [if_neg (by simp)]⟩
  | @put x v l vs l' _ ih =>
    obtain ⟨h1, h2, h3⟩ := ih
    refine ⟨by simp at h1 ⊢; omega, by simp [h2], fun i => ?_⟩
    cases i with
    | zero => simp
    | succ i =>
      have := h3 i
      simp only [List.getElem?_cons_succ, this, List.length_cons, Nat.zero_add, Nat.zero_le, true_and, Nat.sub_zero]
      by_cases hi : i < vs.length
      · rw [if_pos hi, if_pos (by omega)]
      · rw [if_neg hi, if_neg (by omega)]
  | @skip x v l vs l' n _ ih =>
    obtain ⟨h1, h2, h3⟩ := ih
    refine ⟨by simp at h1 ⊢; omega, by simp [h2], fun i => ?_⟩
    cases i with
    | zero => simp
    | succ i =>
      have := h3 i
      simp only [List.getElem?_cons_succ, this]
      by_cases hi : n ≤ i ∧ i < n + (v :: vs).length
      · rw [if_pos hi, if_pos (by omega), show i + 1 - (n + 1) = i - n by omega]
      · rw [if_neg hi, if_neg (by omega)]

section
variable {c : Ctx} {k : List Item} {st : St} {Γ : List Assn} {d : Option Tmp} {ty : TypeId} {pos : String} {af : Array Edge} {g : Option (Nat × Bool)}

theorem cell_of {w : World} {b o : Nat} {l : List Value} {E : TypeId} {fz : Nat × Nat} {v : Value} (h : w.heap[b]? = some (.cells ⟨l⟩ E fz)) (hv : l[o]? = some v) : w.cell? ⟨b, o, none⟩ = some v := by
  unfold World.cell?
  simp only [h]
  simpa using hv

theorem run_loadCells {P : Program} {w : World} {b o : Nat} {vs : List Value} : (∀ i, i < vs.length → w.cell? ⟨b, o + i, none⟩ = vs[i]?) → ∀ (n i : Nat) (acc : Array Value), i + n = vs.length → acc.toList = vs.take i → (loadCellsFrom ⟨b, o, none⟩ i n acc).run P w = .ok ⟨vs⟩ w := by
  intro h n
  induction n with
  | zero =>
    intro i acc hi ha
    simp only [loadCellsFrom, Sem.run_pure]
    have : acc = ⟨vs⟩ := by rw [← Array.toList_inj]; rw [ha, List.take_of_length_le (by omega)]
    rw [this]
  | succ n ih =>
    intro i acc hi ha
    have hlt : i < vs.length := by omega
    have hc := h i hlt
    rw [List.getElem?_eq_getElem hlt] at hc
    simp only [loadCellsFrom, Sem.run_bind, run_load, add_none, hc, Result.andThen_ok]
    refine ih (i + 1) _ (by omega) ?_
    rw [Array.toList_push, ha, List.take_succ_eq_append_getElem hlt]

theorem run_loadVar_sc {P : Program} {w : World} {T b o : Nat} {v : Value} (ht : aggOf P T = some false) (h : w.cell? ⟨b, o, none⟩ = some v) : (loadVar T ⟨b, o, none⟩).run P w = .ok v w := by
  simp [loadVar, run_isAgg ht, h]
theorem run_loadVar_agg {P : Program} {w : World} {T b o n : Nat} {vs : List Value} (ht : aggOf P T = some true) (hs : szOf P T = some n) (hn : vs.length = n) (h : ∀ i, i < n → w.cell? ⟨b, o + i, none⟩ = vs[i]?) : (loadVar T ⟨b, o, none⟩).run P w = .ok (.agg ⟨vs⟩) w := by
  subst hn
  simp [loadVar, run_isAgg ht, run_sizeOf hs, loadCells, run_loadCells h vs.length 0 #[] (by simp) (by simp)]

/-- A variable's value, read. -/
theorem RO_load {x : Operand} {T b o : Nat} {l : List Value} {E : TypeId} {fz : Nat × Nat} {v : Value} [ht : TSc c.P T] (hv : ev st x = some (.pointer (some ⟨b, o, none⟩))) [hg : InG Γ b (.cells ⟨l⟩ E fz)] (hl : l[o]? = some v) :
    RO c st Γ ⟨d, .load T x, ty, pos, af, g⟩ v := fun a w ha hS => by
  obtain ⟨_, hs⟩ := hg.h
  simp [execOp, ev_eval ha hv, Instr.loadAt, Instr.sureAddr, run_loadVar_sc ht.a (cell_of (hS.blk hs).2 hl)]
theorem RO_loadAgg {x : Operand} {T b o n : Nat} {l vs : List Value} {E : TypeId} {fz : Nat × Nat} [ht : TAgg c.P T n] (hv : ev st x = some (.pointer (some ⟨b, o, none⟩))) [hg : InG Γ b (.cells ⟨l⟩ E fz)] (hl : GetN l o n vs) :
    RO c st Γ ⟨d, .load T x, ty, pos, af, g⟩ (.agg ⟨vs⟩) := fun a w ha hS => by
  obtain ⟨_, hs⟩ := hg.h
  obtain ⟨h1, h2⟩ := hl.get
  have := run_loadVar_agg (P := c.P) ht.a ht.s h1 (w := w) (b := b) (o := o) (fun i hi => by
    have hi' : i < vs.length := by omega
    rw [List.getElem?_eq_getElem hi']
    exact cell_of (hS.blk hs).2 (by rw [h2 i hi, List.getElem?_eq_getElem hi']))
  simp [execOp, ev_eval ha hv, Instr.loadAt, Instr.sureAddr, this]

/-! ### new variables, stores -/
theorem JS_of {ops : Array Oper} {rs : List Oper} {l : List Stp} {b : Frame} {cs : List Frame} {a : Act} {w : World} (h : JS c ops rs l k st Γ) (h1 : b.fn = c.f) (h2 : b.kind = .normal) (h3 : Agree c.n st a) (h4 : Sat c.B c.F Γ w) :
    (∀ r ∈ rs, Stable c.P ops r a w) ∧ CR c.P ops (Arr c b cs k) l a w := h b cs a w h1 h2 h3 h4

theorem JR_box {ops : Array Oper} {rs : List Oper} {l : List Stp} {x : Operand} {T : TypeId} {v : Value} (hg : gOk ops st ⟨d, .box T x, ty, pos, af, g⟩ = some true) (hd : dOk d c.n = true) (hv : ev st x = some v)
    (h : ∀ b, JS c ops rs l k (stput d (.pointer (some ⟨b, 0, none⟩)) st) (blk b (.cells v.cells T (0, 0)) :: Γ)) : JR c ops (⟨⟨d, .box T x, ty, pos, af, g⟩, false, rs⟩ :: l) k st Γ := by
  intro b cs a w h1 h2 h3 h4
  unfold CR
  simp only [gOk_wanted hg h3, if_true, Bool.false_eq_true, if_false]
  have : (execOp a.eval ⟨d, .box T x, ty, pos, af, g⟩).run c.P w = .ok (.value (.pointer (some ⟨w.heap.size, 0, none⟩))) (w.alloc (.cells v.cells T (0, 0))) := by
    simp [execOp, ev_eval h3 hv, Instr.box, newVar, newRow]
  rw [this]
  exact JS_of (h w.heap.size) h1 h2 (h3.put hd _) (h4.alloc _)
theorem JR_alloc {ops : Array Oper} {rs : List Oper} {l : List Stp} {T : TypeId} {z : Value} [hz : TZero c.P T z] (hg : gOk ops st ⟨d, .alloc T, ty, pos, af, g⟩ = some true) (hd : dOk d c.n = true)
    (h : ∀ b, JS c ops rs l k (stput d (.pointer (some ⟨b, 0, none⟩)) st) (blk b (.cells z.cells T (0, 0)) :: Γ)) : JR c ops (⟨⟨d, .alloc T, ty, pos, af, g⟩, false, rs⟩ :: l) k st Γ := by
  intro b cs a w h1 h2 h3 h4
  unfold CR
  simp only [gOk_wanted hg h3, if_true, Bool.false_eq_true, if_false]
  have : (execOp a.eval ⟨d, .alloc T, ty, pos, af, g⟩).run c.P w = .ok (.value (.pointer (some ⟨w.heap.size, 0, none⟩))) (w.alloc (.cells z.cells T (0, 0))) := by
    simp [execOp, Instr.alloc, newVar, newRow, run_zeroValue hz.z]
  rw [this]
  exact JS_of (h w.heap.size) h1 h2 (h3.put hd _) (h4.alloc _)

def one (v : Value) : Bool := match v with | .agg _ | .tuple _ => false | _ => true

theorem run_storeCells {P : Program} {b : Nat} {E : TypeId} {o : Nat} : ∀ (vs : List Value) (i : Nat) (l l' : List Value) (w : World), vs.all one = true → w.heap[b]? = some (.cells ⟨l⟩ E (0, 0)) → o + i + vs.length ≤ l.length →
    l'.length = l.length → (∀ j, l'[j]? = if o + i ≤ j ∧ j < o + i + vs.length then vs[j - (o + i)]? else l[j]?) →
    ∃ w', (storeCells ⟨b, o, none⟩ vs i).run P w = .ok () w' ∧ w'.heap = w.heap.setIfInBounds b (.cells ⟨l'⟩ E (0, 0)) ∧ w'.os = w.os ∧ w'.tape = w.tape ∧ w'.output = w.output
  | [], i, l, l', w, _, hb, hle, hlen, hl => by
    have : l' = l := by
      apply List.ext_getElem?
      intro j
      rw [hl j, if_neg (by simp)]
    subst this
    refine ⟨w, rfl, ?_, rfl, rfl, rfl⟩
    apply Array.ext_getElem?
    intro j
    by_cases e : b = j
    · subst e
      have hlt : b < w.heap.size := by
        rcases Nat.lt_or_ge b w.heap.size with h | h
        · exact h
        · rw [Array.getElem?_eq_none h] at hb; cases hb
      rw [hb]; simp [hlt]
    · rw [Array.getElem?_setIfInBounds_ne e]
  | v :: vs, i, l, l', w, hv, hb, hle, hlen, hl => by
    simp only [List.all_cons, Bool.and_eq_true] at hv
    simp only [List.length_cons] at hle hl
    have hlt : b < w.heap.size := by
      rcases Nat.lt_or_ge b w.heap.size with h | h
      · exact h
      · rw [Array.getElem?_eq_none h] at hb; cases hb
    have hol : o + i < l.length := by omega
    have hcell : w.cell? ⟨b, o + i, none⟩ = some l[o + i] := cell_of hb (List.getElem?_eq_getElem hol)
    have hfz : w.frozen? ⟨b, o + i, none⟩ = false := by unfold World.frozen?; simp [hb]
    have hone : v.oneCell' = true := by have := hv.1; cases v <;> first | rfl | (simp [one] at this)
    let w1 := w.setCell ⟨b, o + i, none⟩ v
    have hw1 : w1.heap = w.heap.setIfInBounds b (.cells ⟨l.set (o + i) v⟩ E (0, 0)) := by
      apply Array.ext_getElem?
      intro j
      simp only [w1, World.setCell, Array.getElem?_modify]
      by_cases e : b = j
      · subst e; rw [if_pos rfl, hb]; simp [hlt]
      · rw [if_neg e, Array.getElem?_setIfInBounds_ne e]
    obtain ⟨w', hr, hh, h1, h2, h3⟩ := run_storeCells (P := P) (b := b) (E := E) (o := o) vs (i + 1) (l.set (o + i) v) l' w1 hv.2 (by rw [hw1]; simp [hlt]) (by simp; omega) (by simp [hlen]) (fun j => by
      rw [hl j]
      by_cases e : o + i = j
      · subst e
        rw [if_pos (by omega), if_neg (by omega)]
        simp [hol]
      · rw [List.getElem?_set_ne e]
        by_cases hj : o + i ≤ j ∧ j < o + i + (vs.length + 1)
        · rw [if_pos hj, if_pos (by omega), show j - (o + i) = (j - (o + (i + 1))) + 1 by omega]; rfl
        · rw [if_neg hj, if_neg (by omega)])
    refine ⟨w', ?_, ?_, h1, h2, h3⟩
    · simp only [storeCells, Sem.run_bind, add_none, run_store _ _ _ _ _ hone, hcell, hfz, Bool.false_eq_true, if_false, Result.andThen_ok]
      exact hr
    · rw [hh, hw1]
      apply Array.ext_getElem?
      intro j
      by_cases e : b = j
      · subst e; simp [hlt]
      · rw [Array.getElem?_setIfInBounds_ne e, Array.getElem?_setIfInBounds_ne e, Array.getElem?_setIfInBounds_ne e]

theorem upd_sat {Γ' : List Assn} {b : Nat} {o o' : Obj} {w w' : World} (h : Sat c.B c.F Γ w) (s : Sel Γ (blk b o) Γ') (hw : w'.heap = w.heap.setIfInBounds b o') (h2 : w'.os = w.os) (h3 : w'.tape = w.tape) (h4 : w'.output = w.output) :
    Sat c.B c.F (blk b o' :: Γ') w' := (h.perm s.perm).write hw h2 h3 h4

theorem JR_store {ops : Array Oper} {rs : List Oper} {l : List Stp} {x y : Operand} {T b o n : Nat} {cl cl' vs : List Value} {E : TypeId} {Γ' : List Assn} {v : Value} (hg : gOk ops st ⟨d, .store T x y, ty, pos, af, g⟩ = some true) (hd : dOk d c.n = true)
    (hx : ev st x = some (.pointer (some ⟨b, o, none⟩))) (hy : ev st y = some v) [hs : SelG Γ b (.cells ⟨cl⟩ E (0, 0)) Γ'] (hsz : szOf c.P T = some n) (hvs : v.cells = ⟨vs⟩) (hn : vs.length = n) (hone : vs.all one = true) (hp : PutN cl o vs cl')
    (h : JS c ops rs l k (stput d undef st) (blk b (.cells ⟨cl'⟩ E (0, 0)) :: Γ')) : JR c ops (⟨⟨d, .store T x y, ty, pos, af, g⟩, false, rs⟩ :: l) k st Γ := by
  intro b' cs a w h1 h2 h3 h4
  unfold CR
  simp only [gOk_wanted hg h3, if_true, Bool.false_eq_true, if_false]
  obtain ⟨hp1, hp2, hp3⟩ := hp.get
  obtain ⟨w', hr, hh, e1, e2, e3⟩ := run_storeCells (P := c.P) (E := E) (o := o) vs 0 cl cl' w hone (h4.blk hs.h).2 (by omega) hp2 (fun j => by simpa using hp3 j)
  have : (execOp a.eval ⟨d, .store T x y, ty, pos, af, g⟩).run c.P w = .ok .skip w' := by
    simp [execOp, ev_eval h3 hx, ev_eval h3 hy, Instr.storeAt, Instr.sureAddr, storeVar, hvs, run_sizeOf hsz, hn, hr]
  rw [this]
  exact JS_of h h1 h2 (h3.put hd _) (upd_sat h4 hs.h hh e1 e2 e3)

/-! ### calls -/
theorem run_callFunc {P : Program} {f : FuncId} {args : Array Value} [hf : IsFn P f] {w : World} : (callFunc f args).run P w = .ok (.enter f args) w := by
  obtain ⟨fn, h1, h2, h3⟩ := hf.h
  unfold callFunc
  simp only [Sem.run_bind, run_program, Result.andThen_ok, h1, h2, h3, Bool.false_eq_true, if_false]
  rfl
theorem map_eval {n : Nat} {a : Act} (ha : Agree n st a) : ∀ (xs : List Operand) (vs : List Value), xs.mapM (ev st) = some vs → xs.map a.eval = vs := by
  intro xs
  induction xs with
  | nil => intro vs h; simp at h; simp [h]
  | cons x xs ih =>
    intro vs h
    simp only [List.mapM_cons, Option.bind_eq_bind, Option.bind_eq_some_iff] at h
    obtain ⟨v, hv, us, hu, h⟩ := h
    cases h
    simp [ev_eval ha hv, ih us hu]
/-- The values of a list of operands. -/
inductive Evs (st : St) : List Operand → List Value → Prop
  | nil : Evs st [] []
  | cons {x : Operand} {v : Value} {xs : List Operand} {vs : List Value} : ev st x = some v → Evs st xs vs → Evs st (x :: xs) (v :: vs)
theorem Evs.map {n : Nat} {a : Act} (ha : Agree n st a) {xs : List Operand} {vs : List Value} (h : Evs st xs vs) : xs.map a.eval = vs := by
  induction h with
  | nil => rfl
  | cons h1 _ ih => simp [ev_eval ha h1, ih]

theorem run_call {P : Program} {a : Act} {x : Operand} {xs : List Operand} {ats : Array TypeId} {f : FuncId} {first captured : Array Value} {vs : List Value} [IsFn P f] {w : World} (hx : a.eval x = .func (.func f) first captured) (hvs : xs.map a.eval = vs) :
    (execOp a.eval ⟨d, .call ⟨.value x, ⟨xs⟩, ats⟩, ty, pos, af, g⟩).run P w = .ok (.enter f (first ++ (⟨vs⟩ : Array Value) ++ captured)) w := by
  have hargs : (⟨xs⟩ : Array Operand).map a.eval = ⟨vs⟩ := by rw [← hvs]; rw [← Array.toList_inj]; simp
  simp only [execOp, resolve, hargs, hx, Deferred.ofValue, Sem.run_bind, Sem.run_pure, Result.andThen_ok, invoke, run_callFunc]

/-- A call, by its contract. -/
theorem JR_call {ops : Array Oper} {rs : List Oper} {l : List Stp} {x : Operand} {xs : List Operand} {ats : Array TypeId} {f : FuncId} {first captured : Array Value} {vs : List Value} {Pre R : List Assn} {Q : Value → List Assn → Prop} [IsFn c.P f]
    (hg : gOk ops st ⟨d, .call ⟨.value x, ⟨xs⟩, ats⟩, ty, pos, af, g⟩ = some true) (hd : dOk d c.n = true) (hx : ev st x = some (.func (.func f) first captured)) (hvs : Evs st xs vs) (ht : Tr c.P f (first.toList ++ vs ++ captured.toList) Pre Q) (hs : Split Γ Pre R)
    (h : ∀ v Γ', Q v Γ' → JS c ops rs l k (stput d v st) (Γ' ++ R)) : JR c ops (⟨⟨d, .call ⟨.value x, ⟨xs⟩, ats⟩, ty, pos, af, g⟩, false, rs⟩ :: l) k st Γ := by
  intro b cs a w h1 h2 h3 h4
  unfold CR
  simp only [gOk_wanted hg h3, if_true, Bool.false_eq_true, if_false]
  rw [run_call (ev_eval h3 hx) (hvs.map h3)]
  have hc := ht c.B (all (c.F :: R)) w (h4.perm hs.perm).frame
  rw [show (first.toList ++ vs ++ captured.toList).toArray = first ++ (⟨vs⟩ : Array Value) ++ captured by rw [← Array.toList_inj]; simp] at hc
  refine hc.mono ?_
  rintro e w' ⟨v, Γ', rfl, hQ, hS⟩
  exact JS_of (h v Γ' hQ) h1 h2 (h3.put hd v) hS.unframe
/-- A call that makes new memory alone, by what is known of its run in this world. -/
theorem Sat.below {B : World} {F : Assn} {w w' : World} (h : Sat B F Γ w) (hb : Below w.heap.size w w') : Sat B F Γ w' := by
  obtain ⟨h0, m, hm, hs⟩ := h
  refine ⟨h0.trans (hb.mono h0.size), m, fun b o e => ?_, hs⟩
  obtain ⟨h1, h2⟩ := hm b o e
  have hlt : b < w.heap.size := by
    rcases Nat.lt_or_ge b w.heap.size with h | h
    · exact h
    · rw [Array.getElem?_eq_none h] at h2; cases h2
  exact ⟨h1, by rw [hb.block b hlt]; exact h2⟩
theorem JR_callBelow {ops : Array Oper} {rs : List Oper} {l : List Stp} {x : Operand} {xs : List Operand} {ats : Array TypeId} {f : FuncId} {first captured : Array Value} {vs : List Value} {Q : Value → Prop} [IsFn c.P f]
    (hg : gOk ops st ⟨d, .call ⟨.value x, ⟨xs⟩, ats⟩, ty, pos, af, g⟩ = some true) (hd : dOk d c.n = true) (hx : ev st x = some (.func (.func f) first captured)) (hvs : Evs st xs vs)
    (ht : ∀ w, Sat c.B c.F Γ w → Calls c.P f (first.toList ++ vs ++ captured.toList).toArray w fun e w' => ∃ v, e = .returned v ∧ Q v ∧ Below w.heap.size w w')
    (h : ∀ v, Q v → JS c ops rs l k (stput d v st) Γ) : JR c ops (⟨⟨d, .call ⟨.value x, ⟨xs⟩, ats⟩, ty, pos, af, g⟩, false, rs⟩ :: l) k st Γ := by
  intro b cs a w h1 h2 h3 h4
  unfold CR
  simp only [gOk_wanted hg h3, if_true, Bool.false_eq_true, if_false]
  rw [run_call (ev_eval h3 hx) (hvs.map h3)]
  have hc := ht w h4
  rw [show (first.toList ++ vs ++ captured.toList).toArray = first ++ (⟨vs⟩ : Array Value) ++ captured by rw [← Array.toList_inj]; simp] at hc
  refine hc.mono ?_
  rintro e w' ⟨v, rfl, hQ, hS⟩
  exact JS_of (h v hQ) h1 h2 (h3.put hd v) (h4.below hS)
/-- .. and of a contract that asks nothing of memory: it gives that. -/
theorem Tr.below {P : Program} {f : FuncId} {args : List Value} {Q : Value → Prop} (h : ∀ w, Calls P f args.toArray w fun e w' => ∃ v, e = .returned v ∧ Q v ∧ Below w.heap.size w w') : Tr P f args [] fun v Γ => Q v ∧ Γ = [] :=
  fun _ _ w hS => (h w).mono fun _ _ ⟨v, he, hQ, hb⟩ => ⟨v, [], he, ⟨hQ, rfl⟩, hS.below hb⟩

/-! ### the built-in functions that read -/
theorem run_builtin {P : Program} {a : Act} {bi : Builtin} {xs : List Operand} {ats : Array TypeId} {vs : List Value} {w : World} (hvs : xs.map a.eval = vs) {r : Result Next}
    (h : ∀ cs, (builtin bi ats ty cs ⟨vs⟩).run P w = r) : (execOp a.eval ⟨d, .call ⟨.builtin bi, ⟨xs⟩, ats⟩, ty, pos, af, g⟩).run P w = r := by
  have hargs : (⟨xs⟩ : Array Operand).map a.eval = ⟨vs⟩ := by rw [← hvs]; rw [← Array.toList_inj]; simp
  simp only [execOp, resolve, hargs, Sem.run_bind, Sem.run_pure, Result.andThen_ok, invoke, h]
theorem RO_len_str {x : Operand} {T : TypeId} {s : ByteArray} [ht : TStr c.P T] (hv : ev st x = some (.string s)) : RO c st Γ ⟨d, .call ⟨.builtin .len, #[x], #[T]⟩, ty, pos, af, g⟩ (.int .i64 s.size) := fun a w ha _ => by
  refine run_builtin (vs := [.string s]) (by simp [ev_eval ha hv]) fun cs => ?_
  simp [builtin, Builtin.len_, run_underlying ht.h, goInt]
theorem RO_len_slice {x : Operand} {T E : TypeId} {p : Option Addr} {n m : Nat} [ht : TSlice c.P T E] (hv : ev st x = some (.slice p n m)) : RO c st Γ ⟨d, .call ⟨.builtin .len, #[x], #[T]⟩, ty, pos, af, g⟩ (.int .i64 n) := fun a w ha _ => by
  refine run_builtin (vs := [.slice p n m]) (by simp [ev_eval ha hv]) fun cs => ?_
  simp [builtin, Builtin.len_, run_underlying ht.h, goInt]
theorem RO_max {x y : Operand} {ats : Array TypeId} {k : IntKind} {m n : Int} (hx : ev st x = some (.int k m)) (hy : ev st y = some (.int k n)) : RO c st Γ ⟨d, .call ⟨.builtin .max, #[x, y], ats⟩, ty, pos, af, g⟩ (.int k (max m n)) := fun a w ha _ => by
  refine run_builtin (vs := [.int k m, .int k n]) (by simp [ev_eval ha hx, ev_eval ha hy]) fun cs => ?_
  simp [builtin, Builtin.max_, Builtin.max2]
  split <;> omega
theorem RO_min {x y : Operand} {ats : Array TypeId} {k : IntKind} {m n : Int} (hx : ev st x = some (.int k m)) (hy : ev st y = some (.int k n)) : RO c st Γ ⟨d, .call ⟨.builtin .min, #[x, y], ats⟩, ty, pos, af, g⟩ (.int k (min m n)) := fun a w ha _ => by
  refine run_builtin (vs := [.int k m, .int k n]) (by simp [ev_eval ha hx, ev_eval ha hy]) fun cs => ?_
  simp [builtin, Builtin.min_, Builtin.min2]
  split <;> omega
end
end Go.Proofs.YtaeefjcbmkiiaaaGreatDoor.Sl
