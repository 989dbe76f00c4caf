/- A plan's closed check; the judgement of a walk: from what is known of temporaries and memory, the rest of the body comes to what is said. -/
import Derived.Test.YtaeefjcbmkiiaaaGreatDoorSl1
import Derived.Laws.Sem
namespace Go.Proofs.YtaeefjcbmkiiaaaGreatDoor.Sl
open Go Go.RowKit

def sufOk (pr : Nat → Nat → Bool) (i : Nat) : List Pl → Bool
  | [] => true
  | k :: m => (k.2.1 || (k :: m).any fun q => pr i q.1) && sufOk pr i m
def okAt (ops : Array Oper) (pr : Nat → Nat → Bool) (l : List Pl) (p : Pl) : Bool :=
  ((edges (opAt ops p.1)).all fun e => l.any fun q => q.1 == e) &&
  (if p.2.1 then sufOk pr p.1 l else
    l.all fun q => if q.2.1 then (p.2.2.contains q.1 && (match (opAt ops p.1).dst with | some d => !((opAt ops q.1).looksAt ops).contains d | none => true)) || pr p.1 q.1 else true)
def scan (ops : Array Oper) (pr : Nat → Nat → Bool) : List Pl → List Pl → Bool
  | _, [] => true
  | l, p :: r => okAt ops pr l p && scan ops pr (l ++ [p]) r
def planB (ops : Array Oper) (pr : Nat → Nat → Bool) (plan : List Pl) : Bool :=
  let n := ops.size
  plan.length == n && (List.range n).all (fun i => plan.any fun p => p.1 == i) && plan.all (fun p => decide (p.1 < n)) && decide ((plan.map (·.1)).Nodup) &&
  (List.range n).all (fun i => !isSelect (opAt ops i).op) &&
  (List.range n).all (fun i => match (opAt ops i).dst with | some d => (List.range n).all (fun j => i == j || (opAt ops j).dst != some d) | none => true) &&
  (List.range n).all (fun i => (List.range n).all fun j => !pr i j || (edges (opAt ops i)).any fun e => e == j || pr e j) &&
  plan.all (fun p => !p.2.1 || (opAt ops p.1).dst.isSome) &&
  plan.all (fun p => !p.2.1 || match (opAt ops p.1).dst with | some d => (List.range n).all (fun j => !((opAt ops j).looksAt ops).contains d || pr j p.1) | none => true) &&
  scan ops pr [] plan

theorem scan_spec {ops : Array Oper} {pr : Nat → Nat → Bool} : ∀ (rest l0 : List Pl), scan ops pr l0 rest = true → ∀ l p r, rest = l ++ p :: r → okAt ops pr (l0 ++ l) p = true
  | [], _, _, l, p, r, h => by simp at h
  | x :: rest, l0, hs, l, p, r, h => by
    simp only [scan, Bool.and_eq_true] at hs
    cases l with
    | nil =>
      simp only [List.nil_append, List.cons.injEq] at h
      obtain ⟨rfl, rfl⟩ := h
      simpa using hs.1
    | cons y l =>
      simp only [List.cons_append, List.cons.injEq] at h
      obtain ⟨rfl, rfl⟩ := h
      have := scan_spec _ _ hs.2 l p r rfl
      simpa using this
theorem sufOk_spec {pr : Nat → Nat → Bool} {i : Nat} : ∀ (l' : List Pl), sufOk pr i l' = true → ∀ l k m, l' = l ++ k :: m → k.2.1 = false → ∃ q ∈ (k :: m).map (·.1), pr i q = true
  | [], _, l, k, m, h, _ => by simp at h
  | x :: l', hs, l, k, m, h, hk => by
    simp only [sufOk, Bool.and_eq_true] at hs
    cases l with
    | nil =>
      simp only [List.nil_append, List.cons.injEq] at h
      obtain ⟨rfl, rfl⟩ := h
      obtain ⟨h1, _⟩ := hs
      rw [hk, Bool.false_or] at h1
      obtain ⟨q, hq, hp⟩ := List.any_eq_true.1 h1
      exact ⟨q.1, List.mem_map.2 ⟨q, hq, rfl⟩, hp⟩
    | cons y l =>
      simp only [List.cons_append, List.cons.injEq] at h
      obtain ⟨rfl, rfl⟩ := h
      exact sufOk_spec _ hs.2 l k m rfl hk

theorem planOk_of {ops : Array Oper} {pr : Nat → Nat → Bool} {plan : List Pl} (h : planB ops pr plan = true) : PlanOk ops pr plan ∧ plan.length = ops.size := by
  simp only [planB, Bool.and_eq_true, List.all_eq_true, List.mem_range, decide_eq_true_eq, beq_iff_eq] at h
  obtain ⟨⟨⟨⟨⟨⟨⟨⟨⟨hlen, hall⟩, hlt⟩, hnd⟩, hsel⟩, hdst⟩, hpr⟩, hfd⟩, hreads⟩, hscan⟩ := h
  have hat : ∀ l p r, plan = l ++ p :: r → okAt ops pr l p = true := fun l p r e => by simpa using scan_spec _ _ hscan l p r e
  refine ⟨⟨fun i hi => ?_, hlt, hnd, fun i hi => by simpa using hsel i hi, fun i hi j hj hne d hd h => ?_, fun i hi j hj hp => ?_, fun p hp hf => ?_, fun p hp hf j hj d hd hmem => ?_, fun l p r e x hx => ?_, fun l k m p r e hk hp => ?_, fun l p m k r e hp hk => ?_⟩, hlen⟩
  · obtain ⟨p, hp, he⟩ := List.any_eq_true.1 (hall i hi)
    exact List.mem_map.2 ⟨p, hp, by simpa using he⟩
  · have := hdst i hi
    rw [hd] at this
    have h2 := List.all_eq_true.1 this j (List.mem_range.2 hj)
    simp [hne, h] at h2
  · have := hpr i hi j hj
    rw [hp] at this
    simp only [Bool.not_true, Bool.false_or] at this
    obtain ⟨e, he, h2⟩ := List.any_eq_true.1 this
    exact ⟨e, he, by simpa using h2⟩
  · have := hfd p hp
    rw [hf] at this; simpa using this
  · have := hreads p hp
    rw [hf, hd] at this
    simp only [Bool.not_true, Bool.false_or] at this
    have h2 := List.all_eq_true.1 this j (List.mem_range.2 hj)
    simpa [hmem] using h2
  · have := hat l p r e
    simp only [okAt, Bool.and_eq_true, List.all_eq_true] at this
    obtain ⟨q, hq, h2⟩ := List.any_eq_true.1 (this.1 x hx)
    exact List.mem_map.2 ⟨q, hq, by simpa using h2⟩
  · have := hat (l ++ k :: m) p r (by simpa using e)
    simp only [okAt, Bool.and_eq_true, hp, if_true] at this
    exact sufOk_spec _ this.2 l k m rfl hk
  · have := hat (l ++ p :: m) k r (by simpa using e)
    simp only [okAt, Bool.and_eq_true, hk, Bool.false_eq_true, if_false, List.all_eq_true] at this
    have h2 := this.2 p (by simp)
    simp only [hp, if_true, Bool.or_eq_true, Bool.and_eq_true] at h2
    rcases h2 with ⟨h3, h4⟩ | h3
    · left
      refine ⟨by simpa using h3, fun d hd => ?_⟩
      rw [hd] at h4
      simpa using h4
    · exact .inr h3

/-! ### the judgement -/
/-- What is known of the temporaries: the first row of a number counts. -/
abbrev St := List (Nat × Value)
def look : St → Nat → Option Value
  | [], _ => none
  | (t, v) :: st, x => cond (Nat.beq t x) (some v) (look st x)

/-- What a body is walked for. -/
structure Ctx where
  P : Program
  B : World
  F : Assn
  f : FuncId
  n : Nat
  fn : Func
  Q : Value → List Assn → Prop
  hf : P.funcs[f]? = some fn
  hm : P.follows .mixedOrders = true

/-- What is said of the call: it returns; what it returns and what memory holds is as Q says. -/
def RQ (B : World) (F : Assn) (Q : Value → List Assn → Prop) (e : Ending) (w' : World) : Prop := ∃ v Γ', e = .returned v ∧ Q v Γ' ∧ Sat B F Γ' w'
def Ctx.R (c : Ctx) : Ending → World → Prop := RQ c.B c.F c.Q

def Agree (n : Nat) (st : St) (a : Act) : Prop := a.defers = [] ∧ n ≤ a.tmps.size ∧ ∀ t v, look st t = some v → a.tmps.getD t undef = v

def Arr (c : Ctx) (b : Frame) (cs : List Frame) (k : List Item) (a : Act) (w : World) : Prop :=
  ∃ e w' fr, c.R e w' ∧ Comes c.P (lone (b.at a k) cs w) (lone fr cs w') e ∧ fr.fn = c.f ∧ fr.leaving c.P w' e

/-- From here the rest comes to what is said. -/
def J (c : Ctx) (k : List Item) (st : St) (Γ : List Assn) : Prop :=
  ∀ (b : Frame) (cs : List Frame) (a : Act) (w : World), b.fn = c.f → b.kind = .normal → Agree c.n st a → Sat c.B c.F Γ w → Arr c b cs k a w
/-- The same, in the middle of a region. -/
def JR (c : Ctx) (ops : Array Oper) (l : List Stp) (k : List Item) (st : St) (Γ : List Assn) : Prop :=
  ∀ (b : Frame) (cs : List Frame) (a : Act) (w : World), b.fn = c.f → b.kind = .normal → Agree c.n st a → Sat c.B c.F Γ w → CR c.P ops (Arr c b cs k) l a w

section
variable {c : Ctx} {k : List Item} {st : St} {Γ : List Assn}

theorem Arr.of_step {b : Frame} {cs : List Frame} {k k' : List Item} {a a' : Act} {w w' : World} (h : step c.P (lone (b.at a k) cs w) = .next (lone (b.at a' k') cs w')) (hh : Arr c b cs k' a' w') : Arr c b cs k a w :=
  let ⟨e, w1, fr, hR, hc, h1, h2⟩ := hh; ⟨e, w1, fr, hR, hc.of_steps (.one h), h1, h2⟩
theorem Arr.of_steps {b : Frame} {cs : List Frame} {k k' : List Item} {a a' : Act} {w w' : World} (h : Steps c.P (lone (b.at a k) cs w) (lone (b.at a' k') cs w')) (hh : Arr c b cs k' a' w') : Arr c b cs k a w :=
  let ⟨e, w1, fr, hR, hc, h1, h2⟩ := hh; ⟨e, w1, fr, hR, hc.of_steps h, h1, h2⟩

theorem J_seq {x y : Code} (h : J c (.code x :: .code y :: k) st Γ) : J c (.code (.seq x y) :: k) st Γ :=
  fun b cs a w h1 h2 h3 h4 => Arr.of_step step_seq (h b cs a w h1 h2 h3 h4)
theorem J_skip (h : J c k st Γ) : J c (.code .skip :: k) st Γ :=
  fun b cs a w h1 h2 h3 h4 => Arr.of_step step_skip (h b cs a w h1 h2 h3 h4)
theorem J_label {l : Nat} (h : J c k st Γ) : J c (.code (.label l) :: k) st Γ :=
  fun b cs a w h1 h2 h3 h4 => Arr.of_step step_label (h b cs a w h1 h2 h3 h4)
theorem J_inBlock {id : Nat} (h : J c k st Γ) : J c (.inBlock id :: k) st Γ :=
  fun b cs a w h1 h2 h3 h4 => Arr.of_step step_inBlock (h b cs a w h1 h2 h3 h4)
theorem J_block {id : Nat} {x : Code} (h : J c (.code x :: .inBlock id :: k) st Γ) : J c (.code (.block id x) :: k) st Γ :=
  fun b cs a w h1 h2 h3 h4 => Arr.of_step step_block (h b cs a w h1 h2 h3 h4)
theorem J_exit {id : Nat} {k' : List Item} (hk : exitTo id k = some k') (h : J c k' st Γ) : J c (.code (.exit id) :: k) st Γ :=
  fun b cs a w h1 h2 h3 h4 => Arr.of_step (step_exit hk) (h b cs a w h1 h2 h3 h4)

/-- An operand's value. -/
def ev (st : St) : Operand → Option Value
  | .tmp t => look st t
  | .const v => some v
  | .global g => some (.pointer (some ⟨g, 0, none⟩))
  | .func f => some (.func (.func f) #[] #[])
theorem ev_eval {n : Nat} {st : St} {a : Act} (h : Agree n st a) {x : Operand} {v : Value} (hv : ev st x = some v) : a.eval x = v := by
  cases x with
  | tmp t => exact h.2.2 t v hv
  | const v => cases hv; rfl
  | global g => cases hv; rfl
  | func f => cases hv; rfl

theorem J_cond {x : Operand} {y z : Code} {t : Bool} (hv : ev st x = some (.bool t)) (ht : t = true → J c (.code y :: k) st Γ) (hf : t = false → J c (.code z :: k) st Γ) :
    J c (.code (.cond x y z) :: k) st Γ := by
  intro b cs a w h1 h2 h3 h4
  refine Arr.of_step (step_cond (ev_eval h3 hv)) ?_
  cases t
  · exact hf rfl b cs a w h1 h2 h3 h4
  · exact ht rfl b cs a w h1 h2 h3 h4
theorem J_cond_t {x : Operand} {y z : Code} (hv : ev st x = some (.bool true)) (ht : J c (.code y :: k) st Γ) : J c (.code (.cond x y z) :: k) st Γ :=
  J_cond hv (fun _ => ht) (fun h => by cases h)
theorem J_cond_f {x : Operand} {y z : Code} (hv : ev st x = some (.bool false)) (hf : J c (.code z :: k) st Γ) : J c (.code (.cond x y z) :: k) st Γ :=
  J_cond hv (fun h => by cases h) (fun _ => hf)
theorem J_cond_d {x : Operand} {y z : Code} {p : Prop} {_ : Decidable p} (hv : ev st x = some (.bool (decide p))) (ht : p → J c (.code y :: k) st Γ) (hf : ¬ p → J c (.code z :: k) st Γ) :
    J c (.code (.cond x y z) :: k) st Γ :=
  J_cond hv (fun h => ht (of_decide_eq_true h)) (fun h => hf (of_decide_eq_false h))
theorem J_cond_nd {x : Operand} {y z : Code} {p : Prop} {_ : Decidable p} (hv : ev st x = some (.bool (!decide p))) (ht : ¬ p → J c (.code y :: k) st Γ) (hf : p → J c (.code z :: k) st Γ) :
    J c (.code (.cond x y z) :: k) st Γ :=
  J_cond hv (fun h => ht (of_decide_eq_false (by simpa using h))) (fun h => hf (of_decide_eq_true (by simpa using h)))

/-- Less is known; memory in another order. -/
def Sub (st st' : St) : Prop := ∀ t v, look st' t = some v → look st t = some v
theorem Sub.refl (st : St) : Sub st st := fun _ _ h => h
theorem Sub.nil {st : St} : Sub st [] := fun _ _ h => by cases h
theorem Sub.cons {st st' : St} {t : Nat} {v : Value} (h : look st t = some v) (hs : Sub st st') : Sub st ((t, v) :: st') := by
  intro x u hx
  unfold look at hx
  cases e : Nat.beq t x with
  | true => rw [e] at hx; cases hx; rw [← Nat.eq_of_beq_eq_true e]; exact h
  | false => rw [e] at hx; exact hs x u hx
theorem sat_left : ∀ {Γ' R : List Assn} {r h : Hp}, sat (Γ' ++ R) r h → sat Γ' r h
  | [], _, _, _, _ => trivial
  | _ :: _, _, _, _, hs => sat_congr_tail (fun _ => sat_left) hs
theorem J_weaken {st' : St} {Γ' R : List Assn} (h : J c k st' Γ') (hs : Sub st st') (hp : Split Γ Γ' R) : J c k st Γ := by
  intro b cs a w h1 h2 h3 h4
  refine h b cs a w h1 h2 ⟨h3.1, h3.2.1, fun t v hv => h3.2.2 t v (hs t v hv)⟩ ?_
  exact (h4.perm hp.perm).imp fun m hm => sat_left hm


/-! ### loops -/
/-- A loop, with a relation that holds at each round's head (x: what it speaks of) and a measure that each round lowers. -/
theorem J_loop {α : Type} {body : Code} (S : α → St) (G : α → List Assn) (pr : α → Prop) (μ : α → Nat) (x0 : α) (h0 : pr x0) {R : List Assn} (hs : Sub st (S x0)) (hp : Split Γ (G x0) R)
    (round : ∀ x, pr x → (∀ x', pr x' → μ x' < μ x → J c (.inLoop body :: k) (S x') (G x')) → J c (.code body :: .inLoop body :: k) (S x) (G x)) :
    J c (.code (.loop body) :: k) st Γ := by
  have key : ∀ n x, μ x = n → pr x → J c (.code body :: .inLoop body :: k) (S x) (G x) := by
    intro n
    induction n using Nat.strongRecOn with
    | _ n ih =>
      intro x hx hpx
      refine round x hpx fun x' hpx' hlt => ?_
      have := ih (μ x') (hx ▸ hlt) x' rfl hpx'
      exact fun b cs a w h1 h2 h3 h4 => Arr.of_step step_inLoop (this b cs a w h1 h2 h3 h4)
  exact J_weaken (fun b cs a w h1 h2 h3 h4 => Arr.of_step step_loop (key _ x0 rfl h0 b cs a w h1 h2 h3 h4)) hs hp

/-! ### the end -/
inductive ResL (P : Program) (st : St) (S : World → Prop) : List ResultVar → List Value → Prop
  | nil : ResL P st S [] []
  | tmp {t : Tmp} {v : Value} {rs : List ResultVar} {vs : List Value} : look st t = some v → ResL P st S rs vs → ResL P st S (.tmp t :: rs) (v :: vs)
  | cell {t : Tmp} {T : TypeId} {ad : Addr} {v : Value} {rs : List ResultVar} {vs : List Value} : look st t = some (.pointer (some ad)) → (∀ w, S w → (loadVar T ad).run P w = .ok v w) → ResL P st S rs vs → ResL P st S (.cell t T :: rs) (v :: vs)
def tupleOf : List Value → Value
  | [v] => v
  | vs => .tuple vs.toArray


theorem run_resVars {P : Program} {w : World} {S : World → Prop} (hS : S w) {n : Nat} {st : St} {a : Act} (h : Agree n st a) : ∀ {rs : List ResultVar} {vs : List Value}, ResL P st S rs vs →
    (rs.mapM fun (r : ResultVar) => match r with
      | .tmp t => (Pure.pure (a.tmps.getD t undef) : Sem Value)
      | .cell x t => do loadVar t (← asAddr (a.tmps.getD x undef))).run P w = .ok vs w := by
  intro rs vs hr
  induction hr with
  | nil => rfl
  | @tmp t v rs vs hl _ ih =>
    rw [List.mapM_cons, Sem.run_bind]
    simp only [h.2.2 t v hl, Sem.run_pure, Result.andThen_ok, Sem.run_bind, ih]
  | @cell t T ad v rs vs hl hld _ ih =>
    have ha : asAddr (a.tmps.getD t undef) = Pure.pure ad := by rw [h.2.2 t _ hl]; rfl
    rw [List.mapM_cons, Sem.run_bind]
    simp only [ha, Sem.run_bind, Sem.run_pure, Result.andThen_ok, hld w hS, ih]

theorem run_results {P : Program} {fn : Func} {w : World} {S : World → Prop} (hS : S w) {n : Nat} {st : St} {a : Act} (h : Agree n st a) {rs : List ResultVar} {vs : List Value} (hr : fn.results = ⟨rs⟩) (hl : ResL P st S rs vs) :
    (results fn a.tmps).run P w = .ok (tupleOf vs) w := by
  have hr' : fn.results = rs.toArray := hr
  unfold results
  rw [hr']
  have hm := run_resVars hS h hl
  rw [Sem.run_bind, List.mapM_toArray, Sem.run_map]
  erw [hm]
  simp only [Result.andThen_ok]
  cases vs with
  | nil => rfl
  | cons v vs =>
    cases vs with
    | nil => rfl
    | cons u vs => rfl

theorem J_ret {rs : List ResultVar} {vs : List Value} {Γ' R : List Assn} (hr : c.fn.results = ⟨rs⟩) (hl : ResL c.P st (Sat c.B c.F Γ) rs vs) (hQ : c.Q (tupleOf vs) Γ') (hs : Split Γ Γ' R) : J c (.code .ret :: k) st Γ := by
  intro b cs a w h1 h2 h3 h4
  refine ⟨.returned (tupleOf vs), w, { b.at a (.code .ret :: k) with mode := .returning }, ⟨_, Γ', rfl, hQ, (h4.perm hs.perm).imp fun m hm => sat_left hm⟩, .one step_ret, h1, rfl, h3.1, h2, c.fn, ?_, run_results h4 h3 hr hl⟩
  show c.P.funcs[b.fn]? = some c.fn
  rw [h1]; exact c.hf
theorem J_end {rs : List ResultVar} {vs : List Value} {Γ' R : List Assn} (hr : c.fn.results = ⟨rs⟩) (hl : ResL c.P st (Sat c.B c.F Γ) rs vs) (hQ : c.Q (tupleOf vs) Γ') (hs : Split Γ Γ' R) : J c [] st Γ := by
  intro b cs a w h1 h2 h3 h4
  refine ⟨.returned (tupleOf vs), w, { b.at a [] with mode := .returning }, ⟨_, Γ', rfl, hQ, (h4.perm hs.perm).imp fun m hm => sat_left hm⟩, .one step_end, h1, rfl, h3.1, h2, c.fn, ?_, run_results h4 h3 hr hl⟩
  show c.P.funcs[b.fn]? = some c.fn
  rw [h1]; exact c.hf

/-! ### the begin: what a function's contract says -/
/-- CALLED WITH THESE VALUES WHERE MEMORY HOLDS 'Pre' (AND WHATEVER ELSE): it returns; Q says what, and what memory holds behind it; whatever else was held is held still. -/
def Tr (P : Program) (f : FuncId) (args : List Value) (Pre : List Assn) (Q : Value → List Assn → Prop) : Prop :=
  ∀ (B : World) (F : Assn) (w : World), Sat B F Pre w → Calls P f args.toArray w (RQ B F Q)

def argSt : Nat → List Value → St
  | _, [] => []
  | i, v :: vs => (i, v) :: argSt (i + 1) vs
theorem look_argSt : ∀ (vs : List Value) (i t : Nat) (v : Value), look (argSt i vs) t = some v → i ≤ t ∧ vs[t - i]? = some v
  | [], _, _, _, h => by cases h
  | u :: vs, i, t, v, h => by
    unfold argSt look at h
    cases e : Nat.beq i t with
    | true =>
      rw [e] at h
      have := Nat.eq_of_beq_eq_true e
      subst this
      simpa using h
    | false =>
      rw [e] at h
      obtain ⟨h1, h2⟩ := look_argSt vs (i + 1) t v h
      refine ⟨by omega, ?_⟩
      rw [show t - i = (t - (i + 1)) + 1 by omega]
      simpa using h2

theorem Tr_of_J {P : Program} {f : FuncId} {fn : Func} {args : List Value} {Pre : List Assn} {Q : Value → List Assn → Prop} {body : Code} {n : Nat} (hf : P.funcs[f]? = some fn) (hm : P.follows .mixedOrders = true) (hb : fn.body = some body) (hn : fn.ntmps = n)
    (ha : args.length ≤ n) (h : ∀ B F, J ⟨P, B, F, f, n, fn, Q, hf, hm⟩ [.code body] (argSt 0 args) Pre) : Tr P f args Pre Q := by
  intro B F w hS cs
  let b : Frame := { (default : Frame) with fn := f, kind := .normal }
  have henter : Frame.enter P f args.toArray .normal = b.at { tmps := args.toArray ++ Array.replicate (fn.ntmps - args.toArray.size) undef, defers := [] } [.code body] := by
    simp [Frame.enter, Frame.at, hf, hb, b]
  have := h B F b cs { tmps := args.toArray ++ Array.replicate (fn.ntmps - args.toArray.size) undef, defers := [] } w rfl rfl ⟨rfl, by simp [hn]; omega, fun t v hv => ?_⟩ hS
  · obtain ⟨e, w', fr, h1, h2, h3, h4⟩ := this
    rw [← henter] at h2
    exact ⟨e, w', fr, h1, h2, h3, h4⟩
  · obtain ⟨_, h2⟩ := look_argSt args 0 t v hv
    rw [Nat.sub_zero] at h2
    have ht : t < args.length := by
      rcases Nat.lt_or_ge t args.length with h | h
      · exact h
      · rw [List.getElem?_eq_none h] at h2; cases h2
    have h3 : (args.toArray ++ Array.replicate (fn.ntmps - args.toArray.size) undef)[t]? = some v := by
      rw [Array.getElem?_append_left (by simpa using ht)]; simpa using h2
    rw [Array.getD_eq_getD_getElem?, h3]; rfl

theorem Tr.mono {P : Program} {f : FuncId} {args : List Value} {Pre : List Assn} {Q Q' : Value → List Assn → Prop} (h : Tr P f args Pre Q) (hq : ∀ v Γ, Q v Γ → ∃ Γ' R, Q' v Γ' ∧ Split Γ Γ' R) : Tr P f args Pre Q' :=
  fun B F w hS => (h B F w hS).mono fun _ _ ⟨v, Γ', he, hQ, hS'⟩ => let ⟨Γ2, _, hq', hs⟩ := hq v Γ' hQ; ⟨v, Γ2, he, hq', (hS'.perm hs.perm).imp fun _ hm => sat_left hm⟩

/-! ### regions -/
/-- What must be readable still, then on. -/
def JS (c : Ctx) (ops : Array Oper) (rs : List Oper) (l : List Stp) (k : List Item) (st : St) (Γ : List Assn) : Prop :=
  ∀ (b : Frame) (cs : List Frame) (a : Act) (w : World), b.fn = c.f → b.kind = .normal → Agree c.n st a → Sat c.B c.F Γ w → (∀ r ∈ rs, Stable c.P ops r a w) ∧ CR c.P ops (Arr c b cs k) l a w

theorem J_region {id : Nat} {ops : Array Oper} (h : JR c ops (ops.toList.map Stp.plain) k st Γ) : J c (.code (.region id ops false) :: k) st Γ := by
  intro b cs a w h1 h2 h3 h4
  have h5 := h b cs a w h1 h2 h3 h4
  rw [← range_map_ops] at h5
  obtain ⟨e, a', w', hq, harr⟩ := wp_ops _ a w (wpOps_of_CR (P := c.P) (G := Arr c b cs k) (List.range ops.size) a w (fun i hi => List.mem_range.1 hi) h5) b k cs
  cases e with
  | normal => exact Arr.of_step step_region (Arr.of_steps harr hq)
  | exit id => exact hq.elim
  | goto l => exact hq.elim
  | ret => exact hq.elim
  | panic ch => exact hq.elim
  | outgrown => exact hq.elim

def fitB (ops : Array Oper) (n : Nat) : Bool := ops.toList.all fun o => match o.dst with | some d => Nat.blt d n | none => true
theorem fit_of {ops : Array Oper} {n : Nat} (h : fitB ops n = true) : ∀ i, i < ops.size → ∀ d, (opAt ops i).dst = some d → d < n := by
  intro i hi d hd
  have := List.all_eq_true.1 h (opAt ops i) (by
    have := opAt_eq hi
    exact Array.mem_toList_iff.2 (Array.mem_of_getElem? this))
  rw [hd] at this
  exact Nat.le_of_ble_eq_true this

def plansB (ops : Array Oper) (pr : Nat → Nat → Bool) (n : Nat) (plans : List (List Pl)) : Bool :=
  let acts := actsOf (plans.headD [])
  !plans.isEmpty && fitB ops n && plans.all (planB ops pr) && plans.all (fun p => p.all fun x => acts.contains x.1 == !x.2.1) && decide acts.Nodup && acts.all (fun i => decide (i < ops.size)) &&
  (lins pr acts.length acts).all fun l => plans.any fun p => actsOf p == l

theorem J_draws {id : Nat} {ops : Array Oper} (plans : List (List Pl)) (hp : plansB ops (pre ops) c.n plans = true) (h : ∀ p ∈ plans, JR c ops (p.map (stp ops)) k st Γ) : J c (.code (.region id ops true) :: k) st Γ := by
  intro b cs a w h1 h2 h3 h4
  simp only [plansB, Bool.and_eq_true, List.all_eq_true, decide_eq_true_eq] at hp
  obtain ⟨⟨⟨⟨⟨⟨hne, hfit⟩, hpl⟩, hfl⟩, hnd⟩, hal⟩, hcov⟩ := hp
  have hne' : plans ≠ [] := by intro e; rw [e] at hne; cases hne
  have hwp : (Code.region id ops true).wp c.P (QG (Arr c b cs k)) a w := wp_region_draw fun t => by
    simp only [Region.schedule, c.hm, Bool.true_or, if_true]
    refine wpOps_of_plans (pr := pre ops) (plans := plans) (acts := actsOf (plans.headD [])) hne' (fun p hp => (planOk_of (hpl p hp)).1) (fun p hp => (planOk_of (hpl p hp)).2) (fun p hp x hx => by simpa using hfl p hp x hx) hnd hal (fun l hl => ?_) (fun i hi d hd => Nat.lt_of_lt_of_le (fit_of hfit i hi d hd) h3.2.1) (fun p hp => h p hp b cs a _ h1 h2 h3 h4.drew) t
    obtain ⟨p, hp, he⟩ := List.any_eq_true.1 (hcov l hl)
    exact ⟨p, hp, by simpa using he⟩
  obtain ⟨e, a', w', hq, harr⟩ := hwp b k cs
  cases e with
  | normal => exact Arr.of_steps harr hq
  | exit id => exact hq.elim
  | goto l => exact hq.elim
  | ret => exact hq.elim
  | panic ch => exact hq.elim
  | outgrown => exact hq.elim
theorem J_draw {id : Nat} {ops : Array Oper} (plan : List Pl) (hp : plansB ops (pre ops) c.n [plan] = true) (h : JR c ops (plan.map (stp ops)) k st Γ) : J c (.code (.region id ops true) :: k) st Γ :=
  J_draws [plan] hp fun p hp => by rw [List.mem_singleton.1 hp]; exact h
theorem J_draw2 {id : Nat} {ops : Array Oper} (p1 p2 : List Pl) (hp : plansB ops (pre ops) c.n [p1, p2] = true) (h1 : JR c ops (p1.map (stp ops)) k st Γ) (h2 : JR c ops (p2.map (stp ops)) k st Γ) : J c (.code (.region id ops true) :: k) st Γ :=
  J_draws [p1, p2] hp fun p hp => by
    rcases List.mem_cons.1 hp with rfl | hp
    · exact h1
    · rw [List.mem_singleton.1 hp]; exact h2
theorem J_draw3 {id : Nat} {ops : Array Oper} (p1 p2 p3 : List Pl) (hp : plansB ops (pre ops) c.n [p1, p2, p3] = true) (h1 : JR c ops (p1.map (stp ops)) k st Γ) (h2 : JR c ops (p2.map (stp ops)) k st Γ) (h3 : JR c ops (p3.map (stp ops)) k st Γ) : J c (.code (.region id ops true) :: k) st Γ :=
  J_draws [p1, p2, p3] hp fun p hp => by
    rcases List.mem_cons.1 hp with rfl | hp
    · exact h1
    rcases List.mem_cons.1 hp with rfl | hp
    · exact h2
    · rw [List.mem_singleton.1 hp]; exact h3

theorem JR_nil {ops : Array Oper} (h : J c k st Γ) : JR c ops [] k st Γ := h
theorem JS_nil {ops : Array Oper} {l : List Stp} (h : JR c ops l k st Γ) : JS c ops [] l k st Γ :=
  fun b cs a w h1 h2 h3 h4 => ⟨fun _ hr => (by cases hr), h b cs a w h1 h2 h3 h4⟩

/-- Is it carried out? -/
def gOk (ops : Array Oper) (st : St) (o : Oper) : Option Bool :=
  match o.guard with
  | none => some true
  | some (j, want) =>
    match (ops[j]?).bind (·.dst) with
    | some d => match look st d with
      | some (.bool b) => some (b == want)
      | _ => none
    | none => none
theorem gOk_wanted {n : Nat} {ops : Array Oper} {o : Oper} {t : Bool} {a : Act} (h : gOk ops st o = some t) (ha : Agree n st a) : Region.wanted o (yielded ops a.tmps) = t := by
  unfold gOk at h
  unfold Region.wanted
  split at h
  · rename_i hg; rw [hg]; simpa using h
  · rename_i j want hg
    rw [hg]
    dsimp only at h ⊢
    split at h
    · rename_i d hd
      split at h
      · rename_i b hb
        have := ha.2.2 d _ hb
        have hy : yielded ops a.tmps j = some b := by
          unfold yielded
          rw [hd]
          simp only [Option.bind_some]
          rw [Array.getD_eq_getD_getElem?] at this
          cases hx : a.tmps[d]? with
          | none => rw [hx] at this; simp [undef] at this
          | some v => rw [hx] at this; simp only [Option.getD_some] at this; subst this; rfl
        rw [hy]
        cases h
        cases b <;> cases want <;> rfl
      · cases h
    · cases h

/-- It reads alone, and gives v. -/
def RO (c : Ctx) (st : St) (Γ : List Assn) (o : Oper) (v : Value) : Prop := ∀ a w, Agree c.n st a → Sat c.B c.F Γ w → (execOp a.eval o).run c.P w = .ok (.value v) w

def stput (d : Option Tmp) (v : Value) (st : St) : St := match d with | some d => (d, v) :: st | none => st
def dOk (d : Option Tmp) (n : Nat) : Bool := match d with | some d => Nat.blt d n | none => true
theorem Agree.put {n : Nat} {st : St} {a : Act} (h : Agree n st a) {d : Option Tmp} (hd : dOk d n = true) (v : Value) : Agree n (stput d v st) (a.put d v) := by
  cases d with
  | none => exact h
  | some d =>
    have hlt : d < n := Nat.le_of_ble_eq_true hd
    refine ⟨h.1, by rw [size_put]; exact h.2.1, fun t u hu => ?_⟩
    unfold stput look at hu
    cases e : Nat.beq d t with
    | true =>
      rw [e] at hu
      have := Nat.eq_of_beq_eq_true e
      subst this
      cases hu
      exact getD_put_same _ _ _ (Nat.lt_of_lt_of_le hlt h.2.1)
    | false =>
      rw [e] at hu
      rw [getD_put _ _ _ _ (fun e' => by cases e'; simp at e)]
      exact h.2.2 t u hu

theorem JS_cons {ops : Array Oper} {r : Oper} {rs : List Oper} {l : List Stp} {d : Tmp} {v : Value} (hd : r.dst = some d) (hv : look st d = some v) (hr : RO c st Γ r v) (h : JS c ops rs l k st Γ) : JS c ops (r :: rs) l k st Γ := by
  intro b cs a w h1 h2 h3 h4
  obtain ⟨h5, h6⟩ := h b cs a w h1 h2 h3 h4
  refine ⟨fun x hx => ?_, h6⟩
  rcases List.mem_cons.1 hx with rfl | hx
  · intro _ d' hd'
    rw [hd] at hd'; cases hd'
    rw [h3.2.2 d v hv]
    exact hr a w h3 h4
  · exact h5 x hx
theorem JS_off {ops : Array Oper} {r : Oper} {rs : List Oper} {l : List Stp} (hg : gOk ops st r = some false) (h : JS c ops rs l k st Γ) : JS c ops (r :: rs) l k st Γ := by
  intro b cs a w h1 h2 h3 h4
  obtain ⟨h5, h6⟩ := h b cs a w h1 h2 h3 h4
  refine ⟨fun x hx => ?_, h6⟩
  rcases List.mem_cons.1 hx with rfl | hx
  · intro hw
    rw [gOk_wanted hg h3] at hw; cases hw
  · exact h5 x hx

/-- Not carried out. -/
theorem JR_skip {ops : Array Oper} {o : Oper} {fl : Bool} {rs : List Oper} {l : List Stp} (hg : gOk ops st o = some false) (hd : dOk o.dst c.n = true) (h : JR c ops l k (stput o.dst undef st) Γ) : JR c ops (⟨o, fl, rs⟩ :: l) k st Γ := by
  intro b cs a w h1 h2 h3 h4
  unfold CR
  simp only [gOk_wanted hg h3, Bool.false_eq_true, if_false]
  exact h b cs _ w h1 h2 (h3.put hd undef) h4
/-- It reads alone: ahead of its turn; in its turn. -/
theorem JR_ro {ops : Array Oper} {o : Oper} {rs : List Oper} {l : List Stp} {v : Value} (hg : gOk ops st o = some true) (hd : dOk o.dst c.n = true) (hv : RO c st Γ o v) (h : JR c ops l k (stput o.dst v st) Γ) : JR c ops (⟨o, true, rs⟩ :: l) k st Γ := by
  intro b cs a w h1 h2 h3 h4
  unfold CR
  simp only [gOk_wanted hg h3, if_true]
  exact ⟨v, hv a w h3 h4, h b cs _ w h1 h2 (h3.put hd v) h4⟩
theorem JR_rv {ops : Array Oper} {o : Oper} {rs : List Oper} {l : List Stp} {v : Value} (hg : gOk ops st o = some true) (hd : dOk o.dst c.n = true) (hv : RO c st Γ o v) (h : JS c ops rs l k (stput o.dst v st) Γ) : JR c ops (⟨o, false, rs⟩ :: l) k st Γ := by
  intro b cs a w h1 h2 h3 h4
  unfold CR
  simp only [gOk_wanted hg h3, if_true, Bool.false_eq_true, if_false]
  rw [hv a w h3 h4]
  exact h b cs _ w h1 h2 (h3.put hd v) h4
/-- A test in the middle of a region: by cases. -/
theorem JR_cases {ops : Array Oper} {l : List Stp} (p : Prop) (h1 : p → JR c ops l k st Γ) (h2 : ¬ p → JR c ops l k st Γ) : JR c ops l k st Γ := by
  by_cases h : p
  · exact h1 h
  · exact h2 h
end
end Go.Proofs.YtaeefjcbmkiiaaaGreatDoor.Sl
