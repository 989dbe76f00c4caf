/- A region whose order is open, carried out in one order: the machine's answer is that order's, where what floats is read-only and stays readable. -/
import Derived.Test.YtaeefjcbmkiiaaaGreatDoorVA1
import Derived.Orders
import Derived.Laws.Sem
import Derived.Laws.World
import Derived.Laws.Strings
import Derived.Laws.StructEq
import Derived.WalkLawsBesides
set_option linter.unusedVariables false
set_option linter.unusedSimpArgs false
namespace Go.Proofs.YtaeefjcbmkiiaaaGreatDoor.Sl
open Go Go.RowKit

/-- One operation of a plan: is it carried out ahead of its turn (it changes nothing but its temporary)? which of those that were carried out ahead must be readable still behind it? -/
structure Stp where
  o : Oper
  fl : Bool
  rs : List Oper

def Stp.plain (o : Oper) : Stp := ⟨o, false, []⟩

def QG (G : Act → World → Prop) : Exit → Act → World → Prop
  | .normal, a, w => G a w
  | _, _, _ => False

def Stable (P : Program) (ops : Array Oper) (r : Oper) (a : Act) (w : World) : Prop :=
  Region.wanted r (yielded ops a.tmps) = true → ∀ d, r.dst = some d → (execOp a.eval r).run P w = .ok (.value (a.tmps.getD d undef)) w

/-- The operations of a plan, one behind the other. -/
def CR (P : Program) (ops : Array Oper) (G : Act → World → Prop) : List Stp → Act → World → Prop
  | [], a, w => G a w
  | s :: l, a, w =>
    if Region.wanted s.o (yielded ops a.tmps) = true then
      if s.fl = true then ∃ v, (execOp a.eval s.o).run P w = .ok (.value v) w ∧ CR P ops G l (a.put s.o.dst v) w
      else s.o.upon P a (fun a' w' => (∀ r ∈ s.rs, Stable P ops r a' w') ∧ CR P ops G l a' w') (QG G) ((execOp a.eval s.o).run P w)
    else CR P ops G l (a.put s.o.dst undef) w

section
variable {P : Program} {ops : Array Oper} {G : Act → World → Prop}

theorem upon_mono {o : Oper} {a : Act} {K K' : Act → World → Prop} (h : ∀ a w, K a w → K' a w) {r : Result Next} (hh : o.upon P a K (QG G) r) : o.upon P a K' (QG G) r := by
  cases r with
  | ok n w' =>
    cases n <;> simp only [Oper.upon] at hh ⊢ <;>
      first
        | exact h _ _ hh
        | exact Calls.mono hh (fun e w'' he => by cases e <;> first | exact h _ _ he | exact he)
        | exact Rows.mono hh (fun _ _ he => h _ _ he)
  | halt x w' => cases x <;> simp only [Oper.upon] at hh ⊢ <;> exact hh

/-- The i-th operation. -/
def opAt (ops : Array Oper) (i : Nat) : Oper := (ops[i]?).getD default
theorem opAt_eq {ops : Array Oper} {i : Nat} (h : i < ops.size) : ops[i]? = some (opAt ops i) := by
  unfold opAt; rw [Array.getElem?_eq_getElem h]; rfl

/-- No order is open: the operations as they stand. -/
theorem wpOps_of_CR : ∀ (l : List Nat) (a : Act) (w : World), (∀ i ∈ l, i < ops.size) → CR P ops G (l.map fun i => Stp.plain (opAt ops i)) a w → wpOps P ops (QG G) l a w
  | [], _, _, _, h => h
  | i :: l, a, w, hl, h => by
    have hi : i < ops.size := hl i (List.mem_cons_self ..)
    have ho := opAt_eq hi
    have ih := fun a w => wpOps_of_CR l a w fun j hj => hl j (List.mem_cons_of_mem _ hj)
    simp only [wpOps, ho]
    simp only [List.map_cons, CR, Stp.plain] at h
    split
    · rename_i hw
      rw [if_pos hw] at h
      simp only [Bool.false_eq_true, if_false] at h
      exact .inl (upon_mono (fun a w hh => ih a w hh.2) h)
    · rename_i hw
      rw [if_neg hw] at h
      exact ih _ _ h

theorem range_map_ops (ops : Array Oper) : ((List.range ops.size).map fun i => Stp.plain (opAt ops i)) = ops.toList.map Stp.plain := by
  apply List.ext_getElem
  · simp
  · intro i h1 h2
    have hi : i < ops.size := by simpa using h1
    simp [opAt, hi]

/-! ### an open order -/
theorem getq {x y : Array Value} {t : Nat} (hs : x.size = y.size) (h : x.getD t undef = y.getD t undef) : x[t]? = y[t]? := by
  by_cases ht : t < x.size
  · have ht' : t < y.size := hs ▸ ht
    simp only [Array.getD, ht, ht', dite_true] at h
    rw [Array.getElem?_eq_getElem ht, Array.getElem?_eq_getElem ht']
    exact congrArg some h
  · rw [Array.getElem?_eq_none (by omega), Array.getElem?_eq_none (by omega)]

theorem exec_agree {o : Oper} (hs : ∀ cs b, o.op ≠ .select cs b) {a a' : Act} (h : ∀ t ∈ o.looksAt ops, a.tmps.getD t undef = a'.tmps.getD t undef) :
    execOp a.eval o = execOp a'.eval o :=
  execOp_congr o hs fun x hx => by
    cases x with
    | tmp t => exact h t (List.mem_append_left _ (List.mem_filterMap.2 ⟨.tmp t, by simpa using hx, rfl⟩))
    | _ => rfl
theorem wanted_agree {o : Oper} {a a' : Act} (hs : a.tmps.size = a'.tmps.size) (h : ∀ t ∈ o.looksAt ops, a.tmps.getD t undef = a'.tmps.getD t undef) :
    Region.wanted o (yielded ops a.tmps) = Region.wanted o (yielded ops a'.tmps) := by
  unfold Region.wanted
  cases hg : o.guard with
  | none => rfl
  | some gw =>
    obtain ⟨g, want⟩ := gw
    have hy : yielded ops a.tmps g = yielded ops a'.tmps g := by
      unfold yielded
      cases ht : (ops[g]?).bind (·.dst) with
      | none => rfl
      | some t =>
        have := getq hs (h t (List.mem_append_right _ (by simp [hg, ht])))
        simp only [Option.bind_some, this]
    simp only [hy]

theorem getD_put (a : Act) (dst : Option Tmp) (v : Value) (t : Nat) (h : dst ≠ some t) : (a.put dst v).tmps.getD t undef = a.tmps.getD t undef := by
  cases dst with
  | none => rfl
  | some d =>
    have hne : d ≠ t := fun e => h (e ▸ rfl)
    simp [Act.put, Array.getElem?_setIfInBounds_ne hne]
theorem size_put (a : Act) (dst : Option Tmp) (v : Value) : (a.put dst v).tmps.size = a.tmps.size := by cases dst <;> simp [Act.put]
theorem defers_put (a : Act) (dst : Option Tmp) (v : Value) : (a.put dst v).defers = a.defers := by cases dst <;> rfl

/-- One number of a plan. -/
abbrev Pl := Nat × Bool × List Nat
def stp (ops : Array Oper) (p : Pl) : Stp := ⟨opAt ops p.1, p.2.1, p.2.2.map fun i => opAt ops i⟩

def isSelect : Op → Bool | .select .. => true | _ => false

/-- Must j stand ahead of i? -/
def pre (ops : Array Oper) (i j : Nat) : Bool := ((Region.before ops).getD i 0).testBit j

/-- The edges that bind in any order. -/
def edges (o : Oper) : List Nat := (o.after.toList.filter fun e => Region.binds .any e).map (·.on)

/-- WHAT IS ASKED OF A PLAN: a closed fact. -/
structure PlanOk (ops : Array Oper) (pr : Nat → Nat → Bool) (plan : List Pl) : Prop where
  all : ∀ i, i < ops.size → i ∈ plan.map (·.1)
  lt : ∀ p ∈ plan, p.1 < ops.size
  nodup : (plan.map (·.1)).Nodup
  nosel : ∀ i, i < ops.size → isSelect (opAt ops i).op = false
  dst : ∀ i, i < ops.size → ∀ j, j < ops.size → i ≠ j → ∀ d, (opAt ops i).dst = some d → (opAt ops j).dst ≠ some d
  pr_ok : ∀ i, i < ops.size → ∀ j, j < ops.size → pr i j = true → ∃ e ∈ edges (opAt ops i), e = j ∨ pr e j = true
  fldst : ∀ p ∈ plan, p.2.1 = true → (opAt ops p.1).dst.isSome = true
  reads : ∀ p ∈ plan, p.2.1 = true → ∀ j, j < ops.size → ∀ d, (opAt ops p.1).dst = some d → d ∈ (opAt ops j).looksAt ops → pr j p.1 = true
  topo : ∀ l p r, plan = l ++ p :: r → ∀ e ∈ edges (opAt ops p.1), e ∈ l.map (·.1)
  early : ∀ l k m p r, plan = l ++ k :: m ++ p :: r → k.2.1 = false → p.2.1 = true → ∃ q ∈ (k :: m).map (·.1), pr p.1 q = true
  rechk : ∀ l p m k r, plan = l ++ p :: m ++ k :: r → p.2.1 = true → k.2.1 = false → (p.1 ∈ k.2.2 ∧ ∀ d, (opAt ops k.1).dst = some d → d ∉ (opAt ops p.1).looksAt ops) ∨ pr k.1 p.1 = true

/-- Of one that was carried out ahead. -/
def Pend (P : Program) (ops : Array Oper) (r : Nat) (a : Act) (w : World) : Prop :=
  (Region.wanted (opAt ops r) (yielded ops a.tmps) = true → ∀ d, (opAt ops r).dst = some d → (execOp a.eval (opAt ops r)).run P w = .ok (.value (a.tmps.getD d undef)) w) ∧
  (Region.wanted (opAt ops r) (yielded ops a.tmps) = false → ∀ d, (opAt ops r).dst = some d → a.tmps.getD d undef = undef)

/-- The two that go in step: 'a', as the order goes; 'c', as the plan goes, ahead of it by what is pending. -/
structure Inv (P : Program) (ops : Array Oper) (G : Act → World → Prop) (pr : Nat → Nat → Bool) (plan done : List Pl) (rest : List Pl) (pend : List Nat) (listed : Array Bool) (a c : Act) (w : World) : Prop where
  cut : plan = done ++ rest
  size : listed.size = ops.size
  isl : ∀ i, i < ops.size → (listed.getD i false = true ↔ i ∈ done.map (·.1) ∧ i ∉ pend)
  pin : ∀ r ∈ pend, ∃ p ∈ done, p.1 = r ∧ p.2.1 = true
  pnd : pend.Nodup
  down : ∀ i, i < ops.size → listed.getD i false = true → ∀ j, j < ops.size → pr i j = true → listed.getD j false = true
  tsize : a.tmps.size = c.tmps.size
  tmps : ∀ t, (∀ r ∈ pend, (opAt ops r).dst ≠ some t) → a.tmps.getD t undef = c.tmps.getD t undef
  defers : a.defers = c.defers
  fits : ∀ i, i < ops.size → ∀ d, (opAt ops i).dst = some d → d < c.tmps.size
  pok : ∀ r ∈ pend, Pend P ops r c w
  run : CR P ops G (rest.map (stp ops)) c w

variable {pr : Nat → Nat → Bool} {plan done rest : List Pl} {pend : List Nat} {listed : Array Bool} {a c : Act} {w : World}

theorem PlanOk.nosel' (ok : PlanOk ops pr plan) {i : Nat} (hi : i < ops.size) : ∀ cs b, (opAt ops i).op ≠ .select cs b := fun cs b e => by
  have := ok.nosel i hi; rw [e] at this; cases this

theorem uniq_of : ∀ {l : List Pl}, (l.map (·.1)).Nodup → ∀ {p q : Pl}, p ∈ l → q ∈ l → p.1 = q.1 → p = q
  | x :: l, h, p, q, hp, hq, e => by
    simp only [List.map_cons, List.nodup_cons] at h
    rcases List.mem_cons.1 hp with rfl | hp'
    · rcases List.mem_cons.1 hq with rfl | hq'
      · rfl
      · exact absurd (List.mem_map.2 ⟨q, hq', e.symm⟩) h.1
    · rcases List.mem_cons.1 hq with rfl | hq'
      · exact absurd (List.mem_map.2 ⟨p, hp', e⟩) h.1
      · exact uniq_of h.2 hp' hq' e

theorem Inv.disj (ok : PlanOk ops pr plan) (I : Inv P ops G pr plan done rest pend listed a c w) {p q : Pl} (hp : p ∈ done) (hq : q ∈ rest) : p.1 ≠ q.1 := by
  intro e
  have := ok.nodup
  rw [I.cut, List.map_append, List.nodup_append] at this
  exact this.2.2 p.1 (List.mem_map.2 ⟨p, hp, rfl⟩) q.1 (List.mem_map.2 ⟨q, hq, rfl⟩) e

theorem Inv.mem_done (I : Inv P ops G pr plan done rest pend listed a c w) {p : Pl} (hp : p ∈ done) : p ∈ plan := by rw [I.cut]; exact List.mem_append_left _ hp
theorem Inv.mem_rest (I : Inv P ops G pr plan done rest pend listed a c w) {p : Pl} (hp : p ∈ rest) : p ∈ plan := by rw [I.cut]; exact List.mem_append_right _ hp

/-- What must stand ahead stands ahead in the plan. -/
theorem PlanOk.before (ok : PlanOk ops pr plan) : ∀ (n : Nat) (l : List Pl) (p : Pl) (r : List Pl), l.length = n → plan = l ++ p :: r → ∀ j, j < ops.size → pr p.1 j = true → j ∈ l.map (·.1) := by
  intro n
  induction n using Nat.strongRecOn with
  | _ n ih =>
    intro l p r hn hcut j hj hpr
    have hp : p ∈ plan := by rw [hcut]; simp
    obtain ⟨e, he, h⟩ := ok.pr_ok p.1 (ok.lt p hp) j hj hpr
    have hel := ok.topo l p r hcut e he
    rcases h with rfl | h
    · exact hel
    · obtain ⟨q, hq, rfl⟩ := List.mem_map.1 hel
      obtain ⟨l1, l2, rfl⟩ := List.append_of_mem hq
      have := ih l1.length (by subst hn; simp) l1 q (l2 ++ p :: r) rfl (by rw [hcut]; simp) j hj h
      simp only [List.map_append, List.mem_append]
      exact .inl this

theorem getD_put_same (a : Act) (d : Tmp) (v : Value) (h : d < a.tmps.size) : (a.put (some d) v).tmps.getD d undef = v := by
  simp [Act.put, h]

theorem PlanOk.self (ok : PlanOk ops pr plan) {p : Pl} (hp : p ∈ plan) (hf : p.2.1 = true) {d : Tmp} (hd : (opAt ops p.1).dst = some d) : d ∉ (opAt ops p.1).looksAt ops := by
  intro h
  obtain ⟨l, r, hcut⟩ := List.append_of_mem hp
  have := ok.before _ l p r rfl hcut p.1 (ok.lt p hp) (ok.reads p hp hf p.1 (ok.lt p hp) d hd h)
  have hn := ok.nodup
  rw [hcut, List.map_append, List.nodup_append] at hn
  exact hn.2.2 p.1 this p.1 (by simp) rfl

/-- Nothing that a reader looks at has turned. -/
theorem Pend.keep {r : Nat} (hr : r < ops.size) (ok : PlanOk ops pr plan) {d : Option Tmp} {u : Value} (h : Pend P ops r c w) (hl : ∀ t, d = some t → t ∉ (opAt ops r).looksAt ops) (hd : ∀ t, d = some t → (opAt ops r).dst ≠ some t) :
    Pend P ops r (c.put d u) w := by
  have hw := wanted_put (ops := ops) (opAt ops r) c d u hl
  have hx := execOp_put (ops := ops) (opAt ops r) (ok.nosel' hr) c d u hl
  refine ⟨fun hwant e he => ?_, fun hwant e he => ?_⟩
  · rw [getD_put c d u e (fun h' => hd e h' he), hx]
    exact h.1 (hw ▸ hwant) e he
  · rw [getD_put c d u e (fun h' => hd e h' he)]
    exact h.2 (hw ▸ hwant) e he

/-- The plan runs ahead by one that floats. -/
theorem Inv.ahead (ok : PlanOk ops pr plan) {p : Pl} (I : Inv P ops G pr plan done (p :: rest) pend listed a c w) (hf : p.2.1 = true) :
    ∃ c', Inv P ops G pr plan (done ++ [p]) rest (p.1 :: pend) listed a c' w := by
  have hp : p ∈ plan := I.mem_rest (List.mem_cons_self ..)
  have hlt := ok.lt p hp
  obtain ⟨d, hd⟩ := Option.isSome_iff_exists.1 (ok.fldst p hp hf)
  have hds : d < c.tmps.size := I.fits p.1 hlt d hd
  have hnd : p.1 ∉ done.map (·.1) := fun h => by
    obtain ⟨q, hq, e⟩ := List.mem_map.1 h
    exact I.disj ok hq (List.mem_cons_self ..) e
  have hnp : p.1 ∉ pend := fun h => by
    obtain ⟨q, hq, e, _⟩ := I.pin _ h
    exact hnd (List.mem_map.2 ⟨q, hq, e⟩)
  have hself := ok.self hp hf hd
  -- pending ones do not look at d: they stand ahead of p in the plan
  have hpend : ∀ r ∈ pend, r < ops.size ∧ r ≠ p.1 ∧ d ∉ (opAt ops r).looksAt ops := by
    intro r hr
    obtain ⟨q, hq, e, hqf⟩ := I.pin r hr
    have hqp := I.mem_done hq
    have hrl : r < ops.size := e ▸ ok.lt q hqp
    refine ⟨hrl, fun h => hnp (h ▸ hr), fun hmem => ?_⟩
    have hpr := ok.reads p hp hf r hrl d hd hmem
    obtain ⟨l1, l2, h2⟩ := List.append_of_mem hq
    have := ok.before _ l1 q (l2 ++ p :: rest) rfl (by rw [I.cut, h2]; simp) p.1 hlt (by rw [e]; exact hpr)
    exact hnd (by rw [h2]; simp only [List.map_append, List.mem_append]; exact .inl this)
  -- whatever is put there
  have key : ∀ u, CR P ops G (rest.map (stp ops)) (c.put (some d) u) w → Pend P ops p.1 (c.put (some d) u) w → Inv P ops G pr plan (done ++ [p]) rest (p.1 :: pend) listed a (c.put (some d) u) w := by
    intro u hrun hpp
    refine ⟨by rw [I.cut]; simp, I.size, fun i hi => ?_, ?_, List.nodup_cons.2 ⟨hnp, I.pnd⟩, I.down, by rw [size_put]; exact I.tsize, fun t ht => ?_, by rw [defers_put]; exact I.defers, fun i hi e he => by rw [size_put]; exact I.fits i hi e he, ?_, hrun⟩
    · rw [I.isl i hi]
      constructor
      · rintro ⟨h1, h2⟩
        refine ⟨by simp only [List.map_append, List.mem_append]; exact .inl h1, fun h => ?_⟩
        rcases List.mem_cons.1 h with rfl | h
        · exact hnd h1
        · exact h2 h
      · rintro ⟨h1, h2⟩
        simp only [List.map_append, List.mem_append, List.map_cons, List.map_nil, List.mem_singleton] at h1
        rcases h1 with h1 | rfl
        · exact ⟨h1, fun h => h2 (List.mem_cons_of_mem _ h)⟩
        · exact absurd (List.mem_cons_self ..) h2
    · intro r hr
      rcases List.mem_cons.1 hr with rfl | hr
      · exact ⟨p, by simp, rfl, hf⟩
      · obtain ⟨q, hq, e⟩ := I.pin r hr
        exact ⟨q, by simp [hq], e⟩
    · have htd : d ≠ t := fun e => ht p.1 (List.mem_cons_self ..) (e ▸ hd)
      rw [getD_put _ _ _ _ (fun e => htd (Option.some.inj e))]
      exact I.tmps t fun r hr => ht r (List.mem_cons_of_mem _ hr)
    · intro r hr
      rcases List.mem_cons.1 hr with rfl | hr
      · exact hpp
      · obtain ⟨hrl, hne, hnl⟩ := hpend r hr
        refine (I.pok r hr).keep hrl ok (fun t e => by cases e; exact hnl) (fun t e => by cases e; exact fun h => ok.dst r hrl p.1 hlt hne d h hd)
  have hrun := I.run
  simp only [List.map_cons, CR] at hrun
  have hso : (stp ops p).o = opAt ops p.1 := rfl
  have hfl : (stp ops p).fl = true := hf
  rw [hso, hfl, hd] at hrun
  have hw : ∀ u, Region.wanted (opAt ops p.1) (yielded ops (c.put (some d) u).tmps) = Region.wanted (opAt ops p.1) (yielded ops c.tmps) :=
    fun u => wanted_put (ops := ops) (opAt ops p.1) c (some d) u (fun t e => by cases e; exact hself)
  have hx : ∀ u, execOp (c.put (some d) u).eval (opAt ops p.1) = execOp c.eval (opAt ops p.1) :=
    fun u => execOp_put (ops := ops) (opAt ops p.1) (ok.nosel' hlt) c (some d) u (fun t e => by cases e; exact hself)
  split at hrun
  · rename_i hwant
    rw [if_pos rfl] at hrun
    obtain ⟨v, hv, hrun⟩ := hrun
    refine ⟨_, key v hrun ⟨fun _ e he => ?_, fun hf' => ?_⟩⟩
    · rw [hd] at he; cases he
      rw [hx, getD_put_same _ _ _ hds]; exact hv
    · rw [hw, hwant] at hf'; cases hf'
  · rename_i hwant
    refine ⟨_, key undef hrun ⟨fun hf' => ?_, fun _ e he => ?_⟩⟩
    · rw [hw] at hf'; exact absurd hf' hwant
    · rw [hd] at he; cases he
      exact getD_put_same _ _ _ hds

/-- It runs ahead as far as it can. -/
theorem Inv.aheadAll (ok : PlanOk ops pr plan) : ∀ (rest done : List Pl) (pend : List Nat) (c : Act), Inv P ops G pr plan done rest pend listed a c w →
    ∃ done' rest' pend' c', Inv P ops G pr plan done' rest' pend' listed a c' w ∧ (∀ p l, rest' = p :: l → p.2.1 = false) ∧ pend'.length + rest'.length = pend.length + rest.length := by
  intro rest
  induction rest with
  | nil => exact fun done pend c I => ⟨done, [], pend, c, I, (fun p l e => by cases e), rfl⟩
  | cons p rest ih =>
    intro done pend c I
    by_cases hf : p.2.1 = true
    · obtain ⟨c', I'⟩ := I.ahead ok hf
      obtain ⟨d', r', p', c'', I'', h, hn⟩ := ih _ _ _ I'
      refine ⟨d', r', p', c'', I'', h, ?_⟩
      rw [hn]; simp; omega
    · exact ⟨done, p :: rest, pend, c, I, (fun q l e => by cases e; simpa using hf), rfl⟩

theorem getD_set (L : Array Bool) (i j : Nat) (h : i < L.size) : (L.setIfInBounds i true).getD j false = if i = j then true else L.getD j false := by
  by_cases e : i = j
  · subst e; simp [Array.getD, h]
  · rw [if_neg e]
    simp only [Array.getD_eq_getD_getElem?, Array.getElem?_setIfInBounds_ne e]

/-- What stands ready looks at nothing that is pending. -/
theorem Inv.clean (ok : PlanOk ops pr plan) (I : Inv P ops G pr plan done rest pend listed a c w) {i : Nat} (hi : i < ops.size) (hready : ∀ j, j < ops.size → pr i j = true → listed.getD j false = true) :
    ∀ t ∈ (opAt ops i).looksAt ops, a.tmps.getD t undef = c.tmps.getD t undef := by
  intro t ht
  refine I.tmps t fun r hr hd => ?_
  obtain ⟨q, hq, e, hqf⟩ := I.pin r hr
  have hqp := I.mem_done hq
  have hrl : r < ops.size := e ▸ ok.lt q hqp
  have hpr := ok.reads q hqp hqf i hi t (by rw [e]; exact hd) ht
  rw [e] at hpr
  exact ((I.isl r hrl).1 (hready r hrl hpr)).2 hr

/-- The order comes to one that the plan has carried out ahead. -/
theorem Inv.catch (ok : PlanOk ops pr plan) (I : Inv P ops G pr plan done rest pend listed a c w) {r : Nat} (hr : r ∈ pend) (hready : ∀ j, j < ops.size → pr r j = true → listed.getD j false = true)
    {K : Act → World → Prop} (hK : ∀ a', Inv P ops G pr plan done rest (pend.erase r) (listed.setIfInBounds r true) a' c w → K a' w) : wpOp P ops (QG G) r K a w := by
  obtain ⟨q, hq, e, hqf⟩ := I.pin r hr
  have hqp := I.mem_done hq
  have hrl : r < ops.size := e ▸ ok.lt q hqp
  obtain ⟨d, hd⟩ := Option.isSome_iff_exists.1 (ok.fldst q hqp hqf)
  rw [e] at hd
  have hds : d < a.tmps.size := I.tsize ▸ I.fits r hrl d hd
  have hclean := I.clean ok hrl hready
  have hw := wanted_agree (ops := ops) (o := opAt ops r) I.tsize hclean
  have hx := exec_agree (ops := ops) (ok.nosel' hrl) hclean
  have hself : d ∉ (opAt ops r).looksAt ops := by rw [← e]; exact ok.self hqp hqf (by rw [e]; exact hd)
  have key : Inv P ops G pr plan done rest (pend.erase r) (listed.setIfInBounds r true) (a.put (some d) (c.tmps.getD d undef)) c w := by
    refine ⟨I.cut, by simp [I.size], fun i hi => ?_, fun x hx' => I.pin x (List.mem_of_mem_erase hx'), I.pnd.erase _, fun i hi hl j hj hpr => ?_, by rw [size_put]; exact I.tsize, fun t ht => ?_, by rw [defers_put]; exact I.defers, I.fits, fun x hx' => I.pok x (List.mem_of_mem_erase hx'), I.run⟩
    · rw [getD_set _ _ _ (by rw [I.size]; exact hrl)]
      by_cases hir : r = i
      · subst hir
        simp only [if_true, true_iff]
        exact ⟨List.mem_map.2 ⟨q, hq, e⟩, fun h => (List.Nodup.mem_erase_iff I.pnd).1 h |>.1 rfl⟩
      · rw [if_neg hir, I.isl i hi, List.Nodup.mem_erase_iff I.pnd]
        exact ⟨fun ⟨h1, h2⟩ => ⟨h1, fun h => h2 h.2⟩, fun ⟨h1, h2⟩ => ⟨h1, fun h => h2 ⟨fun h' => hir h'.symm, h⟩⟩⟩
    · rw [getD_set _ _ _ (by rw [I.size]; exact hrl)] at hl ⊢
      by_cases hjr : r = j
      · rw [if_pos hjr]
      · rw [if_neg hjr]
        by_cases hir : r = i
        · subst hir; exact hready j hj hpr
        · rw [if_neg hir] at hl; exact I.down i hi hl j hj hpr
    · by_cases htd : d = t
      · subst htd; exact getD_put_same _ _ _ hds
      · rw [getD_put _ _ _ _ (fun h => htd (Option.some.inj h))]
        refine I.tmps t fun x hx' h => ?_
        by_cases hxr : x = r
        · subst hxr; rw [hd] at h; exact htd (Option.some.inj h)
        · exact ht x ((List.Nodup.mem_erase_iff I.pnd).2 ⟨hxr, hx'⟩) h
  unfold wpOp
  simp only [opAt_eq hrl]
  have hp := I.pok r hr
  split
  · rename_i hwant
    left
    unfold Oper.wp
    rw [hx, hp.1 (hw ▸ hwant) d hd]
    simp only [Oper.upon, hd]
    exact hK _ key
  · rename_i hwant
    have : c.tmps.getD d undef = undef := hp.2 (by rw [← hw]; simpa using hwant) d hd
    rw [this] at key
    rw [hd]
    exact hK _ key

theorem upon_two {o : Oper} {a c : Act} {Ka Kc : Act → World → Prop} {r : Result Next} (h : o.upon P c Kc (QG G) r)
    (hv : ∀ u w, Kc (c.put o.dst u) w → Ka (a.put o.dst u) w) (hd : ∀ d w, Kc (({ c with defers := d :: c.defers } : Act).put o.dst undef) w → Ka (({ a with defers := d :: a.defers } : Act).put o.dst undef) w) :
    o.upon P a Ka (QG G) r := by
  cases r with
  | ok n w' =>
    cases n <;> simp only [Oper.upon] at h ⊢
    case value u => exact hv _ _ h
    case skip => exact hv _ _ h
    case defer d => exact hd _ _ h
    case enter f args => exact Calls.mono h fun e w'' he => by cases e <;> first | exact hv _ _ he | exact he
    case row row args => exact Rows.mono h fun u w'' he => hv _ _ he
  | halt x w' => cases x <;> simp only [Oper.upon] at h ⊢ <;> exact h

/-- The order comes to the plan's next one that acts. -/
theorem Inv.step (ok : PlanOk ops pr plan) {p : Pl} (I : Inv P ops G pr plan done (p :: rest) pend listed a c w) (hf : p.2.1 = false) (hready : ∀ j, j < ops.size → pr p.1 j = true → listed.getD j false = true)
    {K : Act → World → Prop} (hK : ∀ a' c' w', Inv P ops G pr plan (done ++ [p]) rest pend (listed.setIfInBounds p.1 true) a' c' w' → K a' w') : wpOp P ops (QG G) p.1 K a w := by
  have hp : p ∈ plan := I.mem_rest (List.mem_cons_self ..)
  have hlt := ok.lt p hp
  have hnd : p.1 ∉ done.map (·.1) := fun h => by
    obtain ⟨q, hq, e⟩ := List.mem_map.1 h
    exact I.disj ok hq (List.mem_cons_self ..) e
  have hnp : p.1 ∉ pend := fun h => by
    obtain ⟨q, hq, e, _⟩ := I.pin _ h
    exact hnd (List.mem_map.2 ⟨q, hq, e⟩)
  have hclean := I.clean ok hlt hready
  have hw := wanted_agree (ops := ops) (o := opAt ops p.1) I.tsize hclean
  have hx := exec_agree (ops := ops) (ok.nosel' hlt) hclean
  have hpend : ∀ r ∈ pend, r < ops.size ∧ r ≠ p.1 ∧ r ∈ p.2.2 ∧ ∀ d, (opAt ops p.1).dst = some d → d ∉ (opAt ops r).looksAt ops := by
    intro r hr
    obtain ⟨q, hq, e, hqf⟩ := I.pin r hr
    have hqp := I.mem_done hq
    have hrl : r < ops.size := e ▸ ok.lt q hqp
    refine ⟨hrl, fun h => hnp (h ▸ hr), ?_⟩
    obtain ⟨l1, l2, h2⟩ := List.append_of_mem hq
    rcases ok.rechk l1 q l2 p rest (by rw [I.cut, h2]) hqf hf with h | h
    · rw [e] at h; exact h
    · rw [e] at h
      exact absurd hr ((I.isl r hrl).1 (hready r hrl h)).2
  have key : ∀ (a0 c0 : Act) (u : Value) (w' : World), a0.tmps = a.tmps → c0.tmps = c.tmps → a0.defers = c0.defers →
      (∀ r ∈ pend, Pend P ops r (c0.put (opAt ops p.1).dst u) w') → CR P ops G (rest.map (stp ops)) (c0.put (opAt ops p.1).dst u) w' →
      Inv P ops G pr plan (done ++ [p]) rest pend (listed.setIfInBounds p.1 true) (a0.put (opAt ops p.1).dst u) (c0.put (opAt ops p.1).dst u) w' := by
    intro a0 c0 u w' ha hc hdf hpd hrun
    refine ⟨by rw [I.cut]; simp, by simp [I.size], fun i hi => ?_, fun r hr => ?_, I.pnd, fun i hi hl j hj hpr => ?_, by rw [size_put, size_put, ha, hc]; exact I.tsize, fun t ht => ?_, by rw [defers_put, defers_put]; exact hdf, fun i hi e he => by rw [size_put, hc]; exact I.fits i hi e he, hpd, hrun⟩
    · rw [getD_set _ _ _ (by rw [I.size]; exact hlt)]
      by_cases hip : p.1 = i
      · subst hip
        simp only [if_true, true_iff]
        exact ⟨by simp, hnp⟩
      · rw [if_neg hip, I.isl i hi]
        simp only [List.map_append, List.mem_append, List.map_cons, List.map_nil, List.mem_singleton]
        exact ⟨fun ⟨h1, h2⟩ => ⟨.inl h1, h2⟩, fun ⟨h1, h2⟩ => ⟨h1.resolve_right (fun h => hip h.symm), h2⟩⟩
    · obtain ⟨q, hq, e⟩ := I.pin r hr
      exact ⟨q, by simp [hq], e⟩
    · rw [getD_set _ _ _ (by rw [I.size]; exact hlt)] at hl ⊢
      by_cases hjr : p.1 = j
      · rw [if_pos hjr]
      · rw [if_neg hjr]
        by_cases hir : p.1 = i
        · subst hir; exact hready j hj hpr
        · rw [if_neg hir] at hl; exact I.down i hi hl j hj hpr
    · cases hdd : (opAt ops p.1).dst with
      | none => simp only [Act.put, ha, hc]; exact I.tmps t ht
      | some d =>
        by_cases htd : d = t
        · subst htd
          have hds := I.fits p.1 hlt d hdd
          rw [getD_put_same _ _ _ (by rw [ha, I.tsize]; exact hds), getD_put_same _ _ _ (by rw [hc]; exact hds)]
        · rw [getD_put _ _ _ _ (fun h => htd (Option.some.inj h)), getD_put _ _ _ _ (fun h => htd (Option.some.inj h)), ha, hc]
          exact I.tmps t ht
  have hrun := I.run
  simp only [List.map_cons, CR] at hrun
  have hso : (stp ops p).o = opAt ops p.1 := rfl
  have hfl : (stp ops p).fl = false := hf
  rw [hso, hfl] at hrun
  -- an unwanted reader stays so
  have hun : ∀ r ∈ pend, ∀ (c0 : Act) (u : Value), c0.tmps = c.tmps → Region.wanted (opAt ops r) (yielded ops (c0.put (opAt ops p.1).dst u).tmps) = Region.wanted (opAt ops r) (yielded ops c.tmps) := by
    intro r hr c0 u hc
    obtain ⟨hrl, hne, _, hnl⟩ := hpend r hr
    have := wanted_put (ops := ops) (opAt ops r) c0 (opAt ops p.1).dst u hnl
    rw [this, hc]
  have hval : ∀ r ∈ pend, ∀ (c0 : Act) (u : Value), c0.tmps = c.tmps → ∀ d, (opAt ops r).dst = some d → (c0.put (opAt ops p.1).dst u).tmps.getD d undef = c.tmps.getD d undef := by
    intro r hr c0 u hc d hd
    obtain ⟨hrl, hne, _, hnl⟩ := hpend r hr
    rw [getD_put _ _ _ _ (fun h => ok.dst r hrl p.1 hlt hne d hd h), hc]
  unfold wpOp
  simp only [opAt_eq hlt]
  have hpd : ∀ (c0 : Act) (u : Value) (w' : World), c0.tmps = c.tmps → (∀ r ∈ (stp ops p).rs, Stable P ops r (c0.put (opAt ops p.1).dst u) w') → ∀ r ∈ pend, Pend P ops r (c0.put (opAt ops p.1).dst u) w' := by
    intro c0 u w' hc hst r hr
    obtain ⟨hrl, hne, hin, hnl⟩ := hpend r hr
    refine ⟨fun hwant d hd => hst (opAt ops r) (List.mem_map.2 ⟨r, hin, rfl⟩) hwant d hd, fun hwant d hd => ?_⟩
    rw [hval r hr c0 u hc d hd]
    exact (I.pok r hr).2 (by rw [← hun r hr c0 u hc]; exact hwant) d hd
  split
  · rename_i hwant
    rw [if_pos (hw ▸ hwant)] at hrun
    simp only [Bool.false_eq_true, if_false] at hrun
    left
    unfold Oper.wp
    rw [hx]
    refine upon_two hrun (fun u w' hh => hK _ _ _ (key a c u w' rfl rfl I.defers (hpd c u w' rfl hh.1) hh.2)) (fun d w' hh => ?_)
    exact hK _ _ _ (key { a with defers := d :: a.defers } { c with defers := d :: c.defers } undef w' rfl rfl (by simp [I.defers]) (hpd { c with defers := d :: c.defers } undef w' rfl hh.1) hh.2)
  · rename_i hwant
    have hwc : ¬ Region.wanted (opAt ops p.1) (yielded ops c.tmps) = true := by rw [← hw]; exact hwant
    rw [if_neg hwc] at hrun
    refine hK _ _ _ (key a c undef w rfl rfl I.defers (fun r hr => ?_) hrun)
    obtain ⟨hrl, hne, _, hnl⟩ := hpend r hr
    exact (I.pok r hr).keep hrl ok hnl (fun t e h => ok.dst r hrl p.1 hlt hne t h e)

theorem mem_ready {i : Nat} (h : i ∈ Region.ready .any ops listed) (hs : listed.size = ops.size) : i < ops.size ∧ listed.getD i false = false ∧ ∀ e ∈ edges (opAt ops i), listed.getD e false = true := by
  unfold Region.ready at h
  simp only [List.mem_filter, List.mem_range, Bool.and_eq_true, Bool.not_eq_true'] at h
  obtain ⟨h1, h2, h3⟩ := h
  refine ⟨h1, ?_, fun e he => ?_⟩
  · simpa [Array.getD, hs, h1] using h2
  · rw [opAt_eq h1] at h3
    simp only [Option.map_some, Option.getD_some] at h3
    obtain ⟨x, hx, rfl⟩ := List.mem_map.1 he
    obtain ⟨hx1, hx2⟩ := List.mem_filter.1 hx
    have := Array.all_eq_true'.1 h3 x (by simpa using hx1)
    simpa [hx2] using this
theorem ready_mem {i : Nat} (hs : listed.size = ops.size) (h1 : i < ops.size) (h2 : listed.getD i false = false) (h3 : ∀ e ∈ edges (opAt ops i), listed.getD e false = true) : i ∈ Region.ready .any ops listed := by
  unfold Region.ready
  simp only [List.mem_filter, List.mem_range, Bool.and_eq_true, Bool.not_eq_true']
  refine ⟨h1, by simpa [Array.getD, hs, h1] using h2, ?_⟩
  rw [opAt_eq h1]
  simp only [Option.map_some, Option.getD_some]
  refine Array.all_eq_true'.2 fun x hx => ?_
  by_cases hb : Region.binds .any x = true
  · simp [hb, h3 x.on (List.mem_map.2 ⟨x, List.mem_filter.2 ⟨by simpa using hx, hb⟩, rfl⟩)]
  · simp [hb]

theorem first_not (q : Pl → Bool) : ∀ (l : List Pl), (∃ x ∈ l, q x = false) → ∃ l1 p l2, l = l1 ++ p :: l2 ∧ q p = false ∧ ∀ x ∈ l1, q x = true
  | [], ⟨_, h, _⟩ => by cases h
  | x :: l, h => by
    cases hx : q x with
    | false => exact ⟨[], x, l, rfl, hx, fun y hy => by cases hy⟩
    | true =>
      obtain ⟨y, hy, hq⟩ := h
      rcases List.mem_cons.1 hy with rfl | hy
      · rw [hx] at hq; cases hq
      · obtain ⟨l1, p, l2, rfl, hp, hl⟩ := first_not q l ⟨y, hy, hq⟩
        exact ⟨x :: l1, p, l2, rfl, hp, fun z hz => (List.mem_cons.1 hz).elim (fun e => e ▸ hx) (hl z)⟩

theorem last_acts : ∀ (m : List Pl) (p : Pl), p.2.1 = false → ∃ m1 k m2, p :: m = m1 ++ k :: m2 ∧ k.2.1 = false ∧ ∀ x ∈ m2, x.2.1 = true
  | [], p, hpf => ⟨[], p, [], rfl, hpf, fun x hx => by cases hx⟩
  | y :: m, p, hpf => by
    cases hyf : y.2.1 with
    | false =>
      obtain ⟨m1, k, m2, e, h1, h2⟩ := last_acts m y hyf
      exact ⟨p :: m1, k, m2, by rw [e]; rfl, h1, h2⟩
    | true =>
      obtain ⟨m1, k, m2, e, h1, h2⟩ := last_acts m p hpf
      cases m1 with
      | nil =>
        simp only [List.nil_append, List.cons.injEq] at e
        obtain ⟨rfl, rfl⟩ := e
        exact ⟨[], p, y :: m, rfl, hpf, fun x hx => (List.mem_cons.1 hx).elim (fun e => e ▸ hyf) (h2 x)⟩
      | cons z m1 =>
        simp only [List.cons_append, List.cons.injEq] at e
        obtain ⟨rfl, rfl⟩ := e
        exact ⟨p :: y :: m1, k, m2, rfl, h1, h2⟩

/-- What acts, in a plan's order. -/
def actsOf (plan : List Pl) : List Nat := (plan.filter fun p => !p.2.1).map (·.1)
theorem actsOf_cons_t {p : Pl} {l : List Pl} (h : p.2.1 = true) : actsOf (p :: l) = actsOf l := by simp [actsOf, h]
theorem actsOf_cons_f {p : Pl} {l : List Pl} (h : p.2.1 = false) : actsOf (p :: l) = p.1 :: actsOf l := by simp [actsOf, h]

theorem aheadAll_acts (ok : PlanOk ops pr plan) : ∀ (rest done : List Pl) (pend : List Nat) (c : Act), Inv P ops G pr plan done rest pend listed a c w →
    ∃ done' rest' pend' c', Inv P ops G pr plan done' rest' pend' listed a c' w ∧ (∀ p l, rest' = p :: l → p.2.1 = false) ∧ pend'.length + rest'.length = pend.length + rest.length ∧ actsOf rest' = actsOf rest := by
  intro rest
  induction rest with
  | nil => exact fun done pend c I => ⟨done, [], pend, c, I, (fun p l e => by cases e), rfl, rfl⟩
  | cons p rest ih =>
    intro done pend c I
    by_cases hf : p.2.1 = true
    · obtain ⟨c', I'⟩ := I.ahead ok hf
      obtain ⟨d', r', p', c'', I'', h, hn, ha⟩ := ih _ _ _ I'
      exact ⟨d', r', p', c'', I'', h, by rw [hn]; simp; omega, by rw [ha, actsOf_cons_t hf]⟩
    · exact ⟨done, p :: rest, pend, c, I, (fun q l e => by cases e; simpa using hf), rfl, rfl⟩

theorem ready_nonempty (ok : PlanOk ops pr plan) (hs : listed.size = ops.size) (hex : ∃ x ∈ plan, listed.getD x.1 false = false) : Region.ready .any ops listed ≠ [] := by
  intro hnil
  obtain ⟨l1, p, l2, hcut, hp, hl⟩ := first_not (fun x => listed.getD x.1 false) plan hex
  have hpp : p ∈ plan := by rw [hcut]; simp
  have := ready_mem (listed := listed) (i := p.1) hs (ok.lt p hpp) hp (fun e he => by
    obtain ⟨q, hq, rfl⟩ := List.mem_map.1 (ok.topo l1 p l2 hcut e he)
    exact hl q hq)
  rw [hnil] at this; cases this

theorem go_eq (ops : Array Oper) (fuel t : Nat) (listed : Array Bool) : Region.linearise.go .any ops (fuel + 1) t listed [] =
    match (Region.ready .any ops listed)[t % (Region.ready .any ops listed).length]? with
    | some i => i :: Region.linearise.go .any ops fuel (t / (Region.ready .any ops listed).length) (listed.setIfInBounds i true) []
    | none => [] := by
  simp only [Region.linearise.go]
  change (match (Region.ready .any ops listed)[t % (Region.ready .any ops listed).length]? with
      | some i => Region.linearise.go .any ops fuel (t / (Region.ready .any ops listed).length) (listed.setIfInBounds i true) [i]
      | none => [].reverse) = _
  split
  · rw [linearise_go_acc]; rfl
  · rfl
theorem ready_pick (hne : Region.ready .any ops listed ≠ []) (t : Nat) : ∃ i, (Region.ready .any ops listed)[t % (Region.ready .any ops listed).length]? = some i := by
  have hlt : t % (Region.ready .any ops listed).length < (Region.ready .any ops listed).length := Nat.mod_lt _ (List.length_pos_iff.2 hne)
  exact ⟨_, List.getElem?_eq_getElem hlt⟩

/-- THE ORDER THAT WAS PICKED, WHERE WHAT ACTS STANDS IN IT AS IN THE PLAN: the plan's answer. -/
theorem wpOps_of_inv (ok : PlanOk ops pr plan) (A : Nat → Bool) (hA : ∀ p ∈ plan, A p.1 = !p.2.1) : ∀ (fuel t : Nat) (done rest : List Pl) (pend : List Nat) (listed : Array Bool) (a c : Act) (w : World),
    Inv P ops G pr plan done rest pend listed a c w → fuel = pend.length + rest.length → (Region.linearise.go .any ops fuel t listed []).filter A = actsOf rest →
    wpOps P ops (QG G) (Region.linearise.go .any ops fuel t listed []) a w := by
  intro fuel
  induction fuel with
  | zero =>
    intro t done rest pend listed a c w I hn _
    obtain rfl : pend = [] := List.length_eq_zero_iff.1 (by omega)
    obtain rfl : rest = [] := List.length_eq_zero_iff.1 (by omega)
    have heq : a = c := by
      obtain ⟨at_, ad⟩ := a
      obtain ⟨ct, cd⟩ := c
      have h1 : at_ = ct := by
        apply Array.ext_getElem?
        intro t
        exact getq I.tsize (I.tmps t fun r hr => by cases hr)
      have h2 : ad = cd := I.defers
      rw [h1, h2]
    show QG G .normal a w
    rw [heq]; exact I.run
  | succ fuel ih =>
    intro t done rest pend listed a c w I0 hn0 hacts0
    obtain ⟨done, rest, pend, c, I, hhead, hn', ha'⟩ := aheadAll_acts ok rest done pend c I0
    have hn : fuel + 1 = pend.length + rest.length := by omega
    have hacts := hacts0.trans ha'.symm
    clear hn' hn0 I0 hacts0 ha'
    have hex : ∃ x ∈ plan, listed.getD x.1 false = false := by
      cases pend with
      | cons r l =>
        obtain ⟨q, hq, e, _⟩ := I.pin r (List.mem_cons_self ..)
        refine ⟨q, I.mem_done hq, ?_⟩
        cases hl : listed.getD q.1 false with
        | false => rfl
        | true => exact absurd (e ▸ List.mem_cons_self ..) ((I.isl q.1 (ok.lt q (I.mem_done hq))).1 hl).2
      | nil =>
        cases rest with
        | nil => simp at hn
        | cons p l =>
          have hp := I.mem_rest (p := p) (List.mem_cons_self ..)
          refine ⟨p, hp, ?_⟩
          cases hl : listed.getD p.1 false with
          | false => rfl
          | true =>
            obtain ⟨h1, _⟩ := (I.isl p.1 (ok.lt p hp)).1 hl
            obtain ⟨q, hq, e⟩ := List.mem_map.1 h1
            exact absurd e (I.disj ok hq (List.mem_cons_self ..))
    obtain ⟨i, hi0⟩ := ready_pick (ready_nonempty ok I.size hex) t
    have hi := List.mem_of_getElem? hi0
    rw [go_eq, hi0] at hacts ⊢
    dsimp only at hacts ⊢
    generalize hrl : (Region.ready .any ops listed).length = rl at hacts ⊢
    rw [wpOps_cons]
    obtain ⟨h1, h2, h3⟩ := mem_ready hi I.size
    have hedge : ∀ e ∈ edges (opAt ops i), e < ops.size := by
      intro e he
      obtain ⟨p, hp, rfl⟩ := List.mem_map.1 (ok.all i h1)
      obtain ⟨l, r, hcut⟩ := List.append_of_mem hp
      obtain ⟨q, hq, rfl⟩ := List.mem_map.1 (ok.topo l p r hcut e he)
      exact ok.lt q (by rw [hcut]; exact List.mem_append_left _ hq)
    have hready : ∀ j, j < ops.size → pr i j = true → listed.getD j false = true := by
      intro j hj hpr
      obtain ⟨e, he, h⟩ := ok.pr_ok i h1 j hj hpr
      rcases h with rfl | h
      · exact h3 e he
      · exact I.down e (hedge e he) (h3 e he) j hj h
    by_cases hip : i ∈ pend
    · obtain ⟨q, hq, e, hqf⟩ := I.pin i hip
      have hAi : A i = false := by rw [← e, hA q (I.mem_done hq), hqf]; rfl
      rw [List.filter_cons_of_neg (by simp [hAi])] at hacts
      refine I.catch ok hip hready fun a' I' => ih _ _ _ _ _ a' c w I' ?_ hacts
      rw [List.length_erase_of_mem hip]
      have : 0 < pend.length := List.length_pos_of_mem hip
      omega
    · have hir : i ∈ rest.map (·.1) := by
        have := ok.all i h1
        rw [I.cut, List.map_append, List.mem_append] at this
        refine this.resolve_left fun h => ?_
        rw [(I.isl i h1).2 ⟨h, hip⟩] at h2; cases h2
      obtain ⟨q, hq, rfl⟩ := List.mem_map.1 hir
      cases rest with
      | nil => cases hq
      | cons p l =>
        have hpf := hhead p l rfl
        by_cases hqf : q.2.1 = false
        · have hAq : A q.1 = true := by rw [hA q (I.mem_rest hq), hqf]; rfl
          rw [List.filter_cons_of_pos hAq, actsOf_cons_f hpf] at hacts
          obtain ⟨e1, e2⟩ := List.cons.inj hacts
          obtain rfl : q = p := uniq_of ok.nodup (I.mem_rest hq) (I.mem_rest (List.mem_cons_self ..)) e1
          refine I.step ok hpf hready fun a' c' w' I' => ih _ _ _ _ _ a' c' w' I' ?_ e2
          simp at hn; omega
        · exfalso
          have hqt : q.2.1 = true := by simpa using hqf
          rcases List.mem_cons.1 hq with rfl | hq'
          · exact hqf hpf
          obtain ⟨m, r, rfl⟩ := List.append_of_mem hq'
          obtain ⟨m1, k, m2, e, hk, _⟩ := last_acts m p hpf
          have hcut : plan = (done ++ m1) ++ k :: m2 ++ q :: r := by
            rw [I.cut]
            have : p :: (m ++ q :: r) = (p :: m) ++ q :: r := rfl
            rw [this, e]; simp
          obtain ⟨z, hz, hpr⟩ := ok.early (done ++ m1) k m2 q r hcut hk hqt
          obtain ⟨y, hy, rfl⟩ := List.mem_map.1 hz
          have hyr : y ∈ p :: (m ++ q :: r) := by
            have h5 : y ∈ p :: m := by rw [e]; exact List.mem_append_right _ hy
            rcases List.mem_cons.1 h5 with rfl | h5
            · exact List.mem_cons_self ..
            · exact List.mem_cons_of_mem _ (List.mem_append_left _ h5)
          have hyl : y.1 < ops.size := ok.lt y (I.mem_rest hyr)
          have hyt := hready y.1 hyl hpr
          obtain ⟨h5, _⟩ := (I.isl y.1 hyl).1 hyt
          obtain ⟨x, hx, e'⟩ := List.mem_map.1 h5
          exact I.disj ok hx hyr e'

theorem inv_start (_ok : PlanOk ops pr plan) (hfit : ∀ i, i < ops.size → ∀ d, (opAt ops i).dst = some d → d < a.tmps.size) (h : CR P ops G (plan.map (stp ops)) a w) :
    Inv P ops G pr plan [] plan [] (Array.replicate ops.size false) a a w := by
  refine ⟨rfl, by simp, fun i hi => ?_, fun r hr => (by cases hr), List.nodup_nil, fun i hi hl => ?_, rfl, fun _ _ => rfl, rfl, hfit, fun r hr => (by cases hr), h⟩
  · simp [Array.getD, hi]
  · simp [Array.getD, hi] at hl


/-! ### the orders in which what acts may come -/
theorem lin_unlisted : ∀ (fuel t : Nat) (listed : Array Bool), listed.size = ops.size → ∀ i ∈ Region.linearise.go .any ops fuel t listed [], i < ops.size ∧ listed.getD i false = false := by
  intro fuel
  induction fuel with
  | zero => intro t listed _ i hi; simp [Region.linearise.go] at hi
  | succ fuel ih =>
    intro t listed hs i hi
    rw [go_eq] at hi
    split at hi
    · rename_i x hx
      obtain ⟨h1, h2, _⟩ := mem_ready (List.mem_of_getElem? hx) hs
      rcases List.mem_cons.1 hi with rfl | hi
      · exact ⟨h1, h2⟩
      · obtain ⟨h3, h4⟩ := ih _ _ (by simp [hs]) i hi
        rw [getD_set _ _ _ (by rw [hs]; exact h1)] at h4
        split at h4
        · cases h4
        · exact ⟨h3, h4⟩
    · cases hi

theorem lin_order (ok : PlanOk ops pr plan) : ∀ (fuel t : Nat) (listed : Array Bool), listed.size = ops.size → (∀ i, i < ops.size → listed.getD i false = true → ∀ j, j < ops.size → pr i j = true → listed.getD j false = true) →
    (Region.linearise.go .any ops fuel t listed []).Pairwise (fun i j => pr i j = false) ∧ (Region.linearise.go .any ops fuel t listed []).Nodup := by
  intro fuel
  induction fuel with
  | zero => intro t listed _ _; simp [Region.linearise.go]
  | succ fuel ih =>
    intro t listed hs hdown
    rw [go_eq]
    split
    · rename_i x hx
      obtain ⟨h1, h2, h3⟩ := mem_ready (List.mem_of_getElem? hx) hs
      have hready : ∀ j, j < ops.size → pr x j = true → listed.getD j false = true := by
        intro j hj hpr
        obtain ⟨e, he, h⟩ := ok.pr_ok x h1 j hj hpr
        rcases h with rfl | h
        · exact h3 e he
        · have : e < ops.size := by
            obtain ⟨p, hp, rfl⟩ := List.mem_map.1 (ok.all x h1)
            obtain ⟨l, r, hcut⟩ := List.append_of_mem hp
            obtain ⟨q, hq, rfl⟩ := List.mem_map.1 (ok.topo l p r hcut e he)
            exact ok.lt q (by rw [hcut]; exact List.mem_append_left _ hq)
          exact hdown e this (h3 e he) j hj h
      have hun := lin_unlisted (ops := ops) fuel (t / (Region.ready .any ops listed).length) (listed.setIfInBounds x true) (by simp [hs])
      obtain ⟨h4, h5⟩ := ih (t / (Region.ready .any ops listed).length) (listed.setIfInBounds x true) (by simp [hs]) (fun i hi hl j hj hpr => by
        rw [getD_set _ _ _ (by rw [hs]; exact h1)] at hl ⊢
        by_cases hxj : x = j
        · rw [if_pos hxj]
        · rw [if_neg hxj]
          by_cases hxi : x = i
          · subst hxi; exact hready j hj hpr
          · rw [if_neg hxi] at hl; exact hdown i hi hl j hj hpr)
      refine ⟨List.pairwise_cons.2 ⟨fun j hj => ?_, h4⟩, List.nodup_cons.2 ⟨fun hx' => ?_, h5⟩⟩
      · obtain ⟨h6, h7⟩ := hun j hj
        rw [getD_set _ _ _ (by rw [hs]; exact h1)] at h7
        split at h7
        · cases h7
        · cases hp : pr x j with
          | false => rfl
          | true => rw [hready j h6 hp] at h7; cases h7
      · obtain ⟨h6, h7⟩ := hun x hx'
        rw [getD_set _ _ _ (by rw [hs]; exact h1), if_pos rfl] at h7; cases h7
    · exact ⟨.nil, List.nodup_nil⟩

theorem lin_all (ok : PlanOk ops pr plan) : ∀ (fuel t : Nat) (listed : Array Bool), listed.size = ops.size → (plan.filter fun p => !listed.getD p.1 false).length ≤ fuel → ∀ i, i < ops.size → listed.getD i false = false →
    i ∈ Region.linearise.go .any ops fuel t listed [] := by
  intro fuel
  induction fuel with
  | zero =>
    intro t listed hs hn i hi hl
    exfalso
    obtain ⟨p, hp, rfl⟩ := List.mem_map.1 (ok.all i hi)
    have : p ∈ plan.filter fun p => !listed.getD p.1 false := List.mem_filter.2 ⟨hp, by simp [hl]⟩
    have := List.length_pos_of_mem this
    omega
  | succ fuel ih =>
    intro t listed hs hn i hi hl
    obtain ⟨p, hp, rfl⟩ := List.mem_map.1 (ok.all i hi)
    obtain ⟨x, hx⟩ := ready_pick (ready_nonempty (listed := listed) ok hs ⟨p, hp, hl⟩) t
    obtain ⟨h1, h2, _⟩ := mem_ready (List.mem_of_getElem? hx) hs
    rw [go_eq, hx]
    by_cases e : x = p.1
    · rw [e]; exact List.mem_cons_self ..
    · refine List.mem_cons_of_mem _ (ih _ _ (by simp [hs]) ?_ p.1 hi ?_)
      · have hsub : (plan.filter fun p => !(listed.setIfInBounds x true).getD p.1 false) = ((plan.filter fun p => !listed.getD p.1 false).filter fun p => !decide (x = p.1)) := by
          rw [List.filter_filter]
          apply List.filter_congr
          intro q _
          rw [getD_set _ _ _ (by rw [hs]; exact h1)]
          by_cases e' : x = q.1 <;> simp [e']
        rw [hsub]
        obtain ⟨y, hy, rfl⟩ := List.mem_map.1 (ok.all x h1)
        have : ((plan.filter fun p => !listed.getD p.1 false).filter fun p => !decide (y.1 = p.1)).length < (plan.filter fun p => !listed.getD p.1 false).length :=
          List.length_filter_lt_length_iff_exists.2 ⟨y, List.mem_filter.2 ⟨hy, by simp [h2]⟩, by simp⟩
        omega
      · rw [getD_set _ _ _ (by rw [hs]; exact h1), if_neg e]; exact hl

/-- All orders of some numbers that keep what must stand ahead ahead. -/
def lins (pr : Nat → Nat → Bool) : Nat → List Nat → List (List Nat)
  | 0, _ => [[]]
  | n + 1, rem => match rem with
    | [] => [[]]
    | _ => rem.flatMap fun i => if rem.all fun j => j == i || !pr i j then (lins pr n (rem.erase i)).map (i :: ·) else []
theorem mem_lins : ∀ (n : Nat) (rem l : List Nat), l.Nodup → rem.Nodup → (∀ x, x ∈ l ↔ x ∈ rem) → rem.length ≤ n → l.Pairwise (fun i j => pr i j = false) → l ∈ lins pr n rem := by
  intro n
  induction n with
  | zero =>
    intro rem l _ _ hm hn _
    obtain rfl : rem = [] := List.length_eq_zero_iff.1 (by omega)
    have : l = [] := List.eq_nil_iff_forall_not_mem.2 fun x hx => by have := (hm x).1 hx; cases this
    simp [lins, this]
  | succ n ih =>
    intro rem l hl hr hm hn hp
    cases l with
    | nil =>
      have : rem = [] := List.eq_nil_iff_forall_not_mem.2 fun x hx => by have := (hm x).2 hx; cases this
      subst this
      simp [lins]
    | cons i l =>
      have hi : i ∈ rem := (hm i).1 (List.mem_cons_self ..)
      have hne : rem ≠ [] := List.ne_nil_of_mem hi
      obtain ⟨h1, h2⟩ := List.nodup_cons.1 hl
      obtain ⟨h3, h4⟩ := List.pairwise_cons.1 hp
      have : l ∈ lins pr n (rem.erase i) := by
        refine ih _ _ h2 (hr.erase _) (fun x => ?_) ?_ h4
        · rw [List.Nodup.mem_erase_iff hr, ← hm x, List.mem_cons]
          constructor
          · exact fun h => ⟨fun e => h1 (e ▸ h), .inr h⟩
          · exact fun ⟨h, h'⟩ => h'.resolve_left h
        · rw [List.length_erase_of_mem hi]; omega
      unfold lins
      cases rem with
      | nil => exact absurd rfl hne
      | cons y ys =>
        dsimp only
        refine List.mem_flatMap.2 ⟨i, hi, ?_⟩
        rw [if_pos (List.all_eq_true.2 fun j hj => ?_)]
        · exact List.mem_map.2 ⟨l, this, rfl⟩
        · rcases List.mem_cons.1 ((hm j).2 hj) with rfl | hj'
          · simp
          · simp [h3 j hj']

theorem wpOps_of_plans {plans : List (List Pl)} {acts : List Nat} (hne : plans ≠ []) (ok : ∀ p ∈ plans, PlanOk ops pr p) (hlen : ∀ p ∈ plans, p.length = ops.size) (hfl : ∀ p ∈ plans, ∀ x ∈ p, acts.contains x.1 = !x.2.1) (hacts : acts.Nodup) (hal : ∀ i ∈ acts, i < ops.size)
    (hcov : ∀ l ∈ lins pr acts.length acts, ∃ p ∈ plans, actsOf p = l) (hfit : ∀ i, i < ops.size → ∀ d, (opAt ops i).dst = some d → d < a.tmps.size) (h : ∀ p ∈ plans, CR P ops G (p.map (stp ops)) a w) (t : Nat) :
    wpOps P ops (QG G) (Region.linearise .any ops t) a w := by
  obtain ⟨p0, hp0⟩ := List.exists_mem_of_ne_nil _ hne
  have hsz : (Array.replicate ops.size false).size = ops.size := by simp
  obtain ⟨ho, hnd⟩ := lin_order (ok p0 hp0) ops.size t (Array.replicate ops.size false) hsz (fun i hi hl => by simp [Array.getD, hi] at hl)
  have hall : ∀ i, i < ops.size → i ∈ Region.linearise.go .any ops ops.size t (Array.replicate ops.size false) [] := fun i hi =>
    lin_all (ok p0 hp0) ops.size t _ hsz (Nat.le_trans (List.length_filter_le ..) (by rw [hlen p0 hp0]; exact Nat.le_refl _)) i hi (by simp [Array.getD, hi])
  have hmem := hcov ((Region.linearise.go .any ops ops.size t (Array.replicate ops.size false) []).filter acts.contains) (mem_lins _ _ _ (hnd.filter _) hacts (fun x => by
    rw [List.mem_filter]
    constructor
    · exact fun hx => by simpa using hx.2
    · exact fun hx => ⟨hall x (hal x hx), by simpa using hx⟩) (Nat.le_refl _) (ho.filter _))
  obtain ⟨p, hp, he⟩ := hmem
  exact wpOps_of_inv (ok p hp) acts.contains (fun x hx => hfl p hp x hx) ops.size t [] p [] _ a a w (inv_start (ok p hp) hfit (h p hp)) (by simp [hlen p hp]) he.symm
end
end Go.Proofs.YtaeefjcbmkiiaaaGreatDoor.Sl
/- A plan's closed check; the judgement of a walk: from what is known of temporaries and memory, the rest of the body comes to what is said. -/
namespace Go.Proofs.YtaeefjcbmkiiaaaGreatDoor.Sl
open Go Go.RowKit

def sufOk (pr : Nat → Nat → Bool) (i : Nat) : List Pl → Bool
  | [] => true
  | k :: m => (k.2.1 || (k :: m).any fun q => pr i q.1) && sufOk pr i m
def okAt (ops : Array Oper) (pr : Nat → Nat → Bool) (l : List Pl) (p : Pl) : Bool :=
  ((edges (opAt ops p.1)).all fun e => l.any fun q => q.1 == e) &&
  (if p.2.1 then sufOk pr p.1 l else
    l.all fun q => if q.2.1 then (p.2.2.contains q.1 && (match (opAt ops p.1).dst with | some d => !((opAt ops q.1).looksAt ops).contains d | none => true)) || pr p.1 q.1 else true)
def scan (ops : Array Oper) (pr : Nat → Nat → Bool) : List Pl → List Pl → Bool
  | _, [] => true
  | l, p :: r => okAt ops pr l p && scan ops pr (l ++ [p]) r
def planB (ops : Array Oper) (pr : Nat → Nat → Bool) (plan : List Pl) : Bool :=
  let n := ops.size
  plan.length == n && (List.range n).all (fun i => plan.any fun p => p.1 == i) && plan.all (fun p => decide (p.1 < n)) && decide ((plan.map (·.1)).Nodup) &&
  (List.range n).all (fun i => !isSelect (opAt ops i).op) &&
  (List.range n).all (fun i => match (opAt ops i).dst with | some d => (List.range n).all (fun j => i == j || (opAt ops j).dst != some d) | none => true) &&
  (List.range n).all (fun i => (List.range n).all fun j => !pr i j || (edges (opAt ops i)).any fun e => e == j || pr e j) &&
  plan.all (fun p => !p.2.1 || (opAt ops p.1).dst.isSome) &&
  plan.all (fun p => !p.2.1 || match (opAt ops p.1).dst with | some d => (List.range n).all (fun j => !((opAt ops j).looksAt ops).contains d || pr j p.1) | none => true) &&
  scan ops pr [] plan

theorem scan_spec {ops : Array Oper} {pr : Nat → Nat → Bool} : ∀ (rest l0 : List Pl), scan ops pr l0 rest = true → ∀ l p r, rest = l ++ p :: r → okAt ops pr (l0 ++ l) p = true
  | [], _, _, l, p, r, h => by simp at h
  | x :: rest, l0, hs, l, p, r, h => by
    simp only [scan, Bool.and_eq_true] at hs
    cases l with
    | nil =>
      simp only [List.nil_append, List.cons.injEq] at h
      obtain ⟨rfl, rfl⟩ := h
      simpa using hs.1
    | cons y l =>
      simp only [List.cons_append, List.cons.injEq] at h
      obtain ⟨rfl, rfl⟩ := h
      have := scan_spec _ _ hs.2 l p r rfl
      simpa using this
theorem sufOk_spec {pr : Nat → Nat → Bool} {i : Nat} : ∀ (l' : List Pl), sufOk pr i l' = true → ∀ l k m, l' = l ++ k :: m → k.2.1 = false → ∃ q ∈ (k :: m).map (·.1), pr i q = true
  | [], _, l, k, m, h, _ => by simp at h
  | x :: l', hs, l, k, m, h, hk => by
    simp only [sufOk, Bool.and_eq_true] at hs
    cases l with
    | nil =>
      simp only [List.nil_append, List.cons.injEq] at h
      obtain ⟨rfl, rfl⟩ := h
      obtain ⟨h1, _⟩ := hs
      rw [hk, Bool.false_or] at h1
      obtain ⟨q, hq, hp⟩ := List.any_eq_true.1 h1
      exact ⟨q.1, List.mem_map.2 ⟨q, hq, rfl⟩, hp⟩
    | cons y l =>
      simp only [List.cons_append, List.cons.injEq] at h
      obtain ⟨rfl, rfl⟩ := h
      exact sufOk_spec _ hs.2 l k m rfl hk

theorem planOk_of {ops : Array Oper} {pr : Nat → Nat → Bool} {plan : List Pl} (h : planB ops pr plan = true) : PlanOk ops pr plan ∧ plan.length = ops.size := by
  simp only [planB, Bool.and_eq_true, List.all_eq_true, List.mem_range, decide_eq_true_eq, beq_iff_eq] at h
  obtain ⟨⟨⟨⟨⟨⟨⟨⟨⟨hlen, hall⟩, hlt⟩, hnd⟩, hsel⟩, hdst⟩, hpr⟩, hfd⟩, hreads⟩, hscan⟩ := h
  have hat : ∀ l p r, plan = l ++ p :: r → okAt ops pr l p = true := fun l p r e => by simpa using scan_spec _ _ hscan l p r e
  refine ⟨⟨fun i hi => ?_, hlt, hnd, fun i hi => by simpa using hsel i hi, fun i hi j hj hne d hd h => ?_, fun i hi j hj hp => ?_, fun p hp hf => ?_, fun p hp hf j hj d hd hmem => ?_, fun l p r e x hx => ?_, fun l k m p r e hk hp => ?_, fun l p m k r e hp hk => ?_⟩, hlen⟩
  · obtain ⟨p, hp, he⟩ := List.any_eq_true.1 (hall i hi)
    exact List.mem_map.2 ⟨p, hp, by simpa using he⟩
  · have := hdst i hi
    rw [hd] at this
    have h2 := List.all_eq_true.1 this j (List.mem_range.2 hj)
    simp [hne, h] at h2
  · have := hpr i hi j hj
    rw [hp] at this
    simp only [Bool.not_true, Bool.false_or] at this
    obtain ⟨e, he, h2⟩ := List.any_eq_true.1 this
    exact ⟨e, he, by simpa using h2⟩
  · have := hfd p hp
    rw [hf] at this; simpa using this
  · have := hreads p hp
    rw [hf, hd] at this
    simp only [Bool.not_true, Bool.false_or] at this
    have h2 := List.all_eq_true.1 this j (List.mem_range.2 hj)
    simpa [hmem] using h2
  · have := hat l p r e
    simp only [okAt, Bool.and_eq_true, List.all_eq_true] at this
    obtain ⟨q, hq, h2⟩ := List.any_eq_true.1 (this.1 x hx)
    exact List.mem_map.2 ⟨q, hq, by simpa using h2⟩
  · have := hat (l ++ k :: m) p r (by simpa using e)
    simp only [okAt, Bool.and_eq_true, hp, if_true] at this
    exact sufOk_spec _ this.2 l k m rfl hk
  · have := hat (l ++ p :: m) k r (by simpa using e)
    simp only [okAt, Bool.and_eq_true, hk, Bool.false_eq_true, if_false, List.all_eq_true] at this
    have h2 := this.2 p (by simp)
    simp only [hp, if_true, Bool.or_eq_true, Bool.and_eq_true] at h2
    rcases h2 with ⟨h3, h4⟩ | h3
    · left
      refine ⟨by simpa using h3, fun d hd => ?_⟩
      rw [hd] at h4
      simpa using h4
    · exact .inr h3

/-! ### the judgement -/
/-- What is known of the temporaries: the first row of a number counts. -/
abbrev St := List (Nat × Value)
def look : St → Nat → Option Value
  | [], _ => none
  | (t, v) :: st, x => cond (Nat.beq t x) (some v) (look st x)

/-- What a body is walked for. -/
structure Ctx where
  P : Program
  B : World
  F : Assn
  f : FuncId
  n : Nat
  fn : Func
  Q : Value → List Assn → Prop
  hf : P.funcs[f]? = some fn
  hm : P.follows .mixedOrders = true

/-- What is said of the call: it returns; what it returns and what memory holds is as Q says. -/
def RQ (B : World) (F : Assn) (Q : Value → List Assn → Prop) (e : Ending) (w' : World) : Prop := ∃ v Γ', e = .returned v ∧ Q v Γ' ∧ Sat B F Γ' w'
def Ctx.R (c : Ctx) : Ending → World → Prop := RQ c.B c.F c.Q

def Agree (n : Nat) (st : St) (a : Act) : Prop := a.defers = [] ∧ n ≤ a.tmps.size ∧ ∀ t v, look st t = some v → a.tmps.getD t undef = v

def Arr (c : Ctx) (b : Frame) (cs : List Frame) (k : List Item) (a : Act) (w : World) : Prop :=
  ∃ e w' fr, c.R e w' ∧ Comes c.P (lone (b.at a k) cs w) (lone fr cs w') e ∧ fr.fn = c.f ∧ fr.leaving c.P w' e

/-- From here the rest comes to what is said. -/
def J (c : Ctx) (k : List Item) (st : St) (Γ : List Assn) : Prop :=
  ∀ (b : Frame) (cs : List Frame) (a : Act) (w : World), b.fn = c.f → b.kind = .normal → Agree c.n st a → Sat c.B c.F Γ w → Arr c b cs k a w
/-- The same, in the middle of a region. -/
def JR (c : Ctx) (ops : Array Oper) (l : List Stp) (k : List Item) (st : St) (Γ : List Assn) : Prop :=
  ∀ (b : Frame) (cs : List Frame) (a : Act) (w : World), b.fn = c.f → b.kind = .normal → Agree c.n st a → Sat c.B c.F Γ w → CR c.P ops (Arr c b cs k) l a w

section
variable {c : Ctx} {k : List Item} {st : St} {Γ : List Assn}

theorem Arr.of_step {b : Frame} {cs : List Frame} {k k' : List Item} {a a' : Act} {w w' : World} (h : step c.P (lone (b.at a k) cs w) = .next (lone (b.at a' k') cs w')) (hh : Arr c b cs k' a' w') : Arr c b cs k a w :=
  let ⟨e, w1, fr, hR, hc, h1, h2⟩ := hh; ⟨e, w1, fr, hR, hc.of_steps (.one h), h1, h2⟩
theorem Arr.of_steps {b : Frame} {cs : List Frame} {k k' : List Item} {a a' : Act} {w w' : World} (h : Steps c.P (lone (b.at a k) cs w) (lone (b.at a' k') cs w')) (hh : Arr c b cs k' a' w') : Arr c b cs k a w :=
  let ⟨e, w1, fr, hR, hc, h1, h2⟩ := hh; ⟨e, w1, fr, hR, hc.of_steps h, h1, h2⟩

theorem J_seq {x y : Code} (h : J c (.code x :: .code y :: k) st Γ) : J c (.code (.seq x y) :: k) st Γ :=
  fun b cs a w h1 h2 h3 h4 => Arr.of_step step_seq (h b cs a w h1 h2 h3 h4)
theorem J_skip (h : J c k st Γ) : J c (.code .skip :: k) st Γ :=
  fun b cs a w h1 h2 h3 h4 => Arr.of_step step_skip (h b cs a w h1 h2 h3 h4)
theorem J_label {l : Nat} (h : J c k st Γ) : J c (.code (.label l) :: k) st Γ :=
  fun b cs a w h1 h2 h3 h4 => Arr.of_step step_label (h b cs a w h1 h2 h3 h4)
theorem J_inBlock {id : Nat} (h : J c k st Γ) : J c (.inBlock id :: k) st Γ :=
  fun b cs a w h1 h2 h3 h4 => Arr.of_step step_inBlock (h b cs a w h1 h2 h3 h4)
theorem J_block {id : Nat} {x : Code} (h : J c (.code x :: .inBlock id :: k) st Γ) : J c (.code (.block id x) :: k) st Γ :=
  fun b cs a w h1 h2 h3 h4 => Arr.of_step step_block (h b cs a w h1 h2 h3 h4)
theorem J_exit {id : Nat} {k' : List Item} (hk : exitTo id k = some k') (h : J c k' st Γ) : J c (.code (.exit id) :: k) st Γ :=
  fun b cs a w h1 h2 h3 h4 => Arr.of_step (step_exit hk) (h b cs a w h1 h2 h3 h4)

/-- An operand's value. -/
def ev (st : St) : Operand → Option Value
  | .tmp t => look st t
  | .const v => some v
  | .global g => some (.pointer (some ⟨g, 0, none⟩))
  | .func f => some (.func (.func f) #[] #[])
theorem ev_eval {n : Nat} {st : St} {a : Act} (h : Agree n st a) {x : Operand} {v : Value} (hv : ev st x = some v) : a.eval x = v := by
  cases x with
  | tmp t => exact h.2.2 t v hv
  | const v => cases hv; rfl
  | global g => cases hv; rfl
  | func f => cases hv; rfl

theorem J_cond {x : Operand} {y z : Code} {t : Bool} (hv : ev st x = some (.bool t)) (ht : t = true → J c (.code y :: k) st Γ) (hf : t = false → J c (.code z :: k) st Γ) :
    J c (.code (.cond x y z) :: k) st Γ := by
  intro b cs a w h1 h2 h3 h4
  refine Arr.of_step (step_cond (ev_eval h3 hv)) ?_
  cases t
  · exact hf rfl b cs a w h1 h2 h3 h4
  · exact ht rfl b cs a w h1 h2 h3 h4
theorem J_cond_t {x : Operand} {y z : Code} (hv : ev st x = some (.bool true)) (ht : J c (.code y :: k) st Γ) : J c (.code (.cond x y z) :: k) st Γ :=
  J_cond hv (fun _ => ht) (fun h => by cases h)
theorem J_cond_f {x : Operand} {y z : Code} (hv : ev st x = some (.bool false)) (hf : J c (.code z :: k) st Γ) : J c (.code (.cond x y z) :: k) st Γ :=
  J_cond hv (fun h => by cases h) (fun _ => hf)
theorem J_cond_d {x : Operand} {y z : Code} {p : Prop} {_ : Decidable p} (hv : ev st x = some (.bool (decide p))) (ht : p → J c (.code y :: k) st Γ) (hf : ¬ p → J c (.code z :: k) st Γ) :
    J c (.code (.cond x y z) :: k) st Γ :=
  J_cond hv (fun h => ht (of_decide_eq_true h)) (fun h => hf (of_decide_eq_false h))
theorem J_cond_nd {x : Operand} {y z : Code} {p : Prop} {_ : Decidable p} (hv : ev st x = some (.bool (!decide p))) (ht : ¬ p → J c (.code y :: k) st Γ) (hf : p → J c (.code z :: k) st Γ) :
    J c (.code (.cond x y z) :: k) st Γ :=
  J_cond hv (fun h => ht (of_decide_eq_false (by simpa using h))) (fun h => hf (of_decide_eq_true (by simpa using h)))

/-- Less is known; memory in another order. -/
def Sub (st st' : St) : Prop := ∀ t v, look st' t = some v → look st t = some v
theorem Sub.refl (st : St) : Sub st st := fun _ _ h => h
theorem Sub.nil {st : St} : Sub st [] := fun _ _ h => by cases h
theorem Sub.cons {st st' : St} {t : Nat} {v : Value} (h : look st t = some v) (hs : Sub st st') : Sub st ((t, v) :: st') := by
  intro x u hx
  unfold look at hx
  cases e : Nat.beq t x with
  | true => rw [e] at hx; cases hx; rw [← Nat.eq_of_beq_eq_true e]; exact h
  | false => rw [e] at hx; exact hs x u hx
theorem sat_left : ∀ {Γ' R : List Assn} {r h : Hp}, sat (Γ' ++ R) r h → sat Γ' r h
  | [], _, _, _, _ => trivial
  | _ :: _, _, _, _, hs => sat_congr_tail (fun _ => sat_left) hs
theorem J_weaken {st' : St} {Γ' R : List Assn} (h : J c k st' Γ') (hs : Sub st st') (hp : Split Γ Γ' R) : J c k st Γ := by
  intro b cs a w h1 h2 h3 h4
  refine h b cs a w h1 h2 ⟨h3.1, h3.2.1, fun t v hv => h3.2.2 t v (hs t v hv)⟩ ?_
  exact (h4.perm hp.perm).imp fun m hm => sat_left hm


/-! ### loops -/
/-- A loop, with a relation that holds at each round's head (x: what it speaks of) and a measure that each round lowers. -/
theorem J_loop {α : Type} {body : Code} (S : α → St) (G : α → List Assn) (pr : α → Prop) (μ : α → Nat) (x0 : α) (h0 : pr x0) {R : List Assn} (hs : Sub st (S x0)) (hp : Split Γ (G x0) R)
    (round : ∀ x, pr x → (∀ x', pr x' → μ x' < μ x → J c (.inLoop body :: k) (S x') (G x')) → J c (.code body :: .inLoop body :: k) (S x) (G x)) :
    J c (.code (.loop body) :: k) st Γ := by
  have key : ∀ n x, μ x = n → pr x → J c (.code body :: .inLoop body :: k) (S x) (G x) := by
    intro n
    induction n using Nat.strongRecOn with
    | _ n ih =>
      intro x hx hpx
      refine round x hpx fun x' hpx' hlt => ?_
      have := ih (μ x') (hx ▸ hlt) x' rfl hpx'
      exact fun b cs a w h1 h2 h3 h4 => Arr.of_step step_inLoop (this b cs a w h1 h2 h3 h4)
  exact J_weaken (fun b cs a w h1 h2 h3 h4 => Arr.of_step step_loop (key _ x0 rfl h0 b cs a w h1 h2 h3 h4)) hs hp

/-! ### the end -/
inductive ResL (P : Program) (st : St) (S : World → Prop) : List ResultVar → List Value → Prop
  | nil : ResL P st S [] []
  | tmp {t : Tmp} {v : Value} {rs : List ResultVar} {vs : List Value} : look st t = some v → ResL P st S rs vs → ResL P st S (.tmp t :: rs) (v :: vs)
  | cell {t : Tmp} {T : TypeId} {ad : Addr} {v : Value} {rs : List ResultVar} {vs : List Value} : look st t = some (.pointer (some ad)) → (∀ w, S w → (loadVar T ad).run P w = .ok v w) → ResL P st S rs vs → ResL P st S (.cell t T :: rs) (v :: vs)
def tupleOf : List Value → Value
  | [v] => v
  | vs => .tuple vs.toArray


theorem run_resVars {P : Program} {w : World} {S : World → Prop} (hS : S w) {n : Nat} {st : St} {a : Act} (h : Agree n st a) : ∀ {rs : List ResultVar} {vs : List Value}, ResL P st S rs vs →
    (rs.mapM fun (r : ResultVar) => match r with
      | .tmp t => (Pure.pure (a.tmps.getD t undef) : Sem Value)
      | .cell x t => do loadVar t (← asAddr (a.tmps.getD x undef))).run P w = .ok vs w := by
  intro rs vs hr
  induction hr with
  | nil => rfl
  | @tmp t v rs vs hl _ ih =>
    rw [List.mapM_cons, Sem.run_bind]
    simp only [h.2.2 t v hl, Sem.run_pure, Result.andThen_ok, Sem.run_bind, ih]
  | @cell t T ad v rs vs hl hld _ ih =>
    have ha : asAddr (a.tmps.getD t undef) = Pure.pure ad := by rw [h.2.2 t _ hl]; rfl
    rw [List.mapM_cons, Sem.run_bind]
    simp only [ha, Sem.run_bind, Sem.run_pure, Result.andThen_ok, hld w hS, ih]

theorem run_results {P : Program} {fn : Func} {w : World} {S : World → Prop} (hS : S w) {n : Nat} {st : St} {a : Act} (h : Agree n st a) {rs : List ResultVar} {vs : List Value} (hr : fn.results = ⟨rs⟩) (hl : ResL P st S rs vs) :
    (results fn a.tmps).run P w = .ok (tupleOf vs) w := by
  have hr' : fn.results = rs.toArray := hr
  unfold results
  rw [hr']
  have hm := run_resVars hS h hl
  rw [Sem.run_bind, List.mapM_toArray, Sem.run_map]
  erw [hm]
  simp only [Result.andThen_ok]
  cases vs with
  | nil => rfl
  | cons v vs =>
    cases vs with
    | nil => rfl
    | cons u vs => rfl

theorem J_ret {rs : List ResultVar} {vs : List Value} {Γ' R : List Assn} (hr : c.fn.results = ⟨rs⟩) (hl : ResL c.P st (Sat c.B c.F Γ) rs vs) (hQ : c.Q (tupleOf vs) Γ') (hs : Split Γ Γ' R) : J c (.code .ret :: k) st Γ := by
  intro b cs a w h1 h2 h3 h4
  refine ⟨.returned (tupleOf vs), w, { b.at a (.code .ret :: k) with mode := .returning }, ⟨_, Γ', rfl, hQ, (h4.perm hs.perm).imp fun m hm => sat_left hm⟩, .one step_ret, h1, rfl, h3.1, h2, c.fn, ?_, run_results h4 h3 hr hl⟩
  show c.P.funcs[b.fn]? = some c.fn
  rw [h1]; exact c.hf
theorem J_end {rs : List ResultVar} {vs : List Value} {Γ' R : List Assn} (hr : c.fn.results = ⟨rs⟩) (hl : ResL c.P st (Sat c.B c.F Γ) rs vs) (hQ : c.Q (tupleOf vs) Γ') (hs : Split Γ Γ' R) : J c [] st Γ := by
  intro b cs a w h1 h2 h3 h4
  refine ⟨.returned (tupleOf vs), w, { b.at a [] with mode := .returning }, ⟨_, Γ', rfl, hQ, (h4.perm hs.perm).imp fun m hm => sat_left hm⟩, .one step_end, h1, rfl, h3.1, h2, c.fn, ?_, run_results h4 h3 hr hl⟩
  show c.P.funcs[b.fn]? = some c.fn
  rw [h1]; exact c.hf

/-! ### the begin: what a function's contract says -/
/-- CALLED WITH THESE VALUES WHERE MEMORY HOLDS 'Pre' (AND WHATEVER ELSE): it returns; Q says what, and what memory holds behind it; whatever else was held is held still. -/
def Tr (P : Program) (f : FuncId) (args : List Value) (Pre : List Assn) (Q : Value → List Assn → Prop) : Prop :=
  ∀ (B : World) (F : Assn) (w : World), Sat B F Pre w → Calls P f args.toArray w (RQ B F Q)

def argSt : Nat → List Value → St
  | _, [] => []
  | i, v :: vs => (i, v) :: argSt (i + 1) vs
theorem look_argSt : ∀ (vs : List Value) (i t : Nat) (v : Value), look (argSt i vs) t = some v → i ≤ t ∧ vs[t - i]? = some v
  | [], _, _, _, h => by cases h
  | u :: vs, i, t, v, h => by
    unfold argSt look at h
    cases e : Nat.beq i t with
    | true =>
      rw [e] at h
      have := Nat.eq_of_beq_eq_true e
      subst this
      simpa using h
    | false =>
      rw [e] at h
      obtain ⟨h1, h2⟩ := look_argSt vs (i + 1) t v h
      refine ⟨by omega, ?_⟩
      rw [show t - i = (t - (i + 1)) + 1 by omega]
      simpa using h2

theorem Tr_of_J {P : Program} {f : FuncId} {fn : Func} {args : List Value} {Pre : List Assn} {Q : Value → List Assn → Prop} {body : Code} {n : Nat} (hf : P.funcs[f]? = some fn) (hm : P.follows .mixedOrders = true) (hb : fn.body = some body) (hn : fn.ntmps = n)
    (ha : args.length ≤ n) (h : ∀ B F, J ⟨P, B, F, f, n, fn, Q, hf, hm⟩ [.code body] (argSt 0 args) Pre) : Tr P f args Pre Q := by
  intro B F w hS cs
  let b : Frame := { (default : Frame) with fn := f, kind := .normal }
  have henter : Frame.enter P f args.toArray .normal = b.at { tmps := args.toArray ++ Array.replicate (fn.ntmps - args.toArray.size) undef, defers := [] } [.code body] := by
    simp [Frame.enter, Frame.at, hf, hb, b]
  have := h B F b cs { tmps := args.toArray ++ Array.replicate (fn.ntmps - args.toArray.size) undef, defers := [] } w rfl rfl ⟨rfl, by simp [hn]; omega, fun t v hv => ?_⟩ hS
  · obtain ⟨e, w', fr, h1, h2, h3, h4⟩ := this
    rw [← henter] at h2
    exact ⟨e, w', fr, h1, h2, h3, h4⟩
  · obtain ⟨_, h2⟩ := look_argSt args 0 t v hv
    rw [Nat.sub_zero] at h2
    have ht : t < args.length := by
      rcases Nat.lt_or_ge t args.length with h | h
      · exact h
      · rw [List.getElem?_eq_none h] at h2; cases h2
    have h3 : (args.toArray ++ Array.replicate (fn.ntmps - args.toArray.size) undef)[t]? = some v := by
      rw [Array.getElem?_append_left (by simpa using ht)]; simpa using h2
    rw [Array.getD_eq_getD_getElem?, h3]; rfl

theorem Tr.mono {P : Program} {f : FuncId} {args : List Value} {Pre : List Assn} {Q Q' : Value → List Assn → Prop} (h : Tr P f args Pre Q) (hq : ∀ v Γ, Q v Γ → ∃ Γ' R, Q' v Γ' ∧ Split Γ Γ' R) : Tr P f args Pre Q' :=
  fun B F w hS => (h B F w hS).mono fun _ _ ⟨v, Γ', he, hQ, hS'⟩ => let ⟨Γ2, _, hq', hs⟩ := hq v Γ' hQ; ⟨v, Γ2, he, hq', (hS'.perm hs.perm).imp fun _ hm => sat_left hm⟩

/-! ### regions -/
/-- What must be readable still, then on. -/
def JS (c : Ctx) (ops : Array Oper) (rs : List Oper) (l : List Stp) (k : List Item) (st : St) (Γ : List Assn) : Prop :=
  ∀ (b : Frame) (cs : List Frame) (a : Act) (w : World), b.fn = c.f → b.kind = .normal → Agree c.n st a → Sat c.B c.F Γ w → (∀ r ∈ rs, Stable c.P ops r a w) ∧ CR c.P ops (Arr c b cs k) l a w

theorem J_region {id : Nat} {ops : Array Oper} (h : JR c ops (ops.toList.map Stp.plain) k st Γ) : J c (.code (.region id ops false) :: k) st Γ := by
  intro b cs a w h1 h2 h3 h4
  have h5 := h b cs a w h1 h2 h3 h4
  rw [← range_map_ops] at h5
  obtain ⟨e, a', w', hq, harr⟩ := wp_ops _ a w (wpOps_of_CR (P := c.P) (G := Arr c b cs k) (List.range ops.size) a w (fun i hi => List.mem_range.1 hi) h5) b k cs
  cases e with
  | normal => exact Arr.of_step step_region (Arr.of_steps harr hq)
  | exit id => exact hq.elim
  | goto l => exact hq.elim
  | ret => exact hq.elim
  | panic ch => exact hq.elim
  | outgrown => exact hq.elim

def fitB (ops : Array Oper) (n : Nat) : Bool := ops.toList.all fun o => match o.dst with | some d => Nat.blt d n | none => true
theorem fit_of {ops : Array Oper} {n : Nat} (h : fitB ops n = true) : ∀ i, i < ops.size → ∀ d, (opAt ops i).dst = some d → d < n := by
  intro i hi d hd
  have := List.all_eq_true.1 h (opAt ops i) (by
    have := opAt_eq hi
    exact Array.mem_toList_iff.2 (Array.mem_of_getElem? this))
  rw [hd] at this
  exact Nat.le_of_ble_eq_true this

def plansB (ops : Array Oper) (pr : Nat → Nat → Bool) (n : Nat) (plans : List (List Pl)) : Bool :=
  let acts := actsOf (plans.headD [])
  !plans.isEmpty && fitB ops n && plans.all (planB ops pr) && plans.all (fun p => p.all fun x => acts.contains x.1 == !x.2.1) && decide acts.Nodup && acts.all (fun i => decide (i < ops.size)) &&
  (lins pr acts.length acts).all fun l => plans.any fun p => actsOf p == l

theorem J_draws {id : Nat} {ops : Array Oper} (plans : List (List Pl)) (hp : plansB ops (pre ops) c.n plans = true) (h : ∀ p ∈ plans, JR c ops (p.map (stp ops)) k st Γ) : J c (.code (.region id ops true) :: k) st Γ := by
  intro b cs a w h1 h2 h3 h4
  simp only [plansB, Bool.and_eq_true, List.all_eq_true, decide_eq_true_eq] at hp
  obtain ⟨⟨⟨⟨⟨⟨hne, hfit⟩, hpl⟩, hfl⟩, hnd⟩, hal⟩, hcov⟩ := hp
  have hne' : plans ≠ [] := by intro e; rw [e] at hne; cases hne
  have hwp : (Code.region id ops true).wp c.P (QG (Arr c b cs k)) a w := wp_region_draw fun t => by
    simp only [Region.schedule, c.hm, Bool.true_or, if_true]
    refine wpOps_of_plans (pr := pre ops) (plans := plans) (acts := actsOf (plans.headD [])) hne' (fun p hp => (planOk_of (hpl p hp)).1) (fun p hp => (planOk_of (hpl p hp)).2) (fun p hp x hx => by simpa using hfl p hp x hx) hnd hal (fun l hl => ?_) (fun i hi d hd => Nat.lt_of_lt_of_le (fit_of hfit i hi d hd) h3.2.1) (fun p hp => h p hp b cs a _ h1 h2 h3 h4.drew) t
    obtain ⟨p, hp, he⟩ := List.any_eq_true.1 (hcov l hl)
    exact ⟨p, hp, by simpa using he⟩
  obtain ⟨e, a', w', hq, harr⟩ := hwp b k cs
  cases e with
  | normal => exact Arr.of_steps harr hq
  | exit id => exact hq.elim
  | goto l => exact hq.elim
  | ret => exact hq.elim
  | panic ch => exact hq.elim
  | outgrown => exact hq.elim
theorem J_draw {id : Nat} {ops : Array Oper} (plan : List Pl) (hp : plansB ops (pre ops) c.n [plan] = true) (h : JR c ops (plan.map (stp ops)) k st Γ) : J c (.code (.region id ops true) :: k) st Γ :=
  J_draws [plan] hp fun p hp => by rw [List.mem_singleton.1 hp]; exact h
theorem J_draw2 {id : Nat} {ops : Array Oper} (p1 p2 : List Pl) (hp : plansB ops (pre ops) c.n [p1, p2] = true) (h1 : JR c ops (p1.map (stp ops)) k st Γ) (h2 : JR c ops (p2.map (stp ops)) k st Γ) : J c (.code (.region id ops true) :: k) st Γ :=
  J_draws [p1, p2] hp fun p hp => by
    rcases List.mem_cons.1 hp with rfl | hp
    · exact h1
    · rw [List.mem_singleton.1 hp]; exact h2
theorem J_draw3 {id : Nat} {ops : Array Oper} (p1 p2 p3 : List Pl) (hp : plansB ops (pre ops) c.n [p1, p2, p3] = true) (h1 : JR c ops (p1.map (stp ops)) k st Γ) (h2 : JR c ops (p2.map (stp ops)) k st Γ) (h3 : JR c ops (p3.map (stp ops)) k st Γ) : J c (.code (.region id ops true) :: k) st Γ :=
  J_draws [p1, p2, p3] hp fun p hp => by
    rcases List.mem_cons.1 hp with rfl | hp
    · exact h1
    rcases List.mem_cons.1 hp with rfl | hp
    · exact h2
    · rw [List.mem_singleton.1 hp]; exact h3

theorem JR_nil {ops : Array Oper} (h : J c k st Γ) : JR c ops [] k st Γ := h
theorem JS_nil {ops : Array Oper} {l : List Stp} (h : JR c ops l k st Γ) : JS c ops [] l k st Γ :=
  fun b cs a w h1 h2 h3 h4 => ⟨fun _ hr => (by cases hr), h b cs a w h1 h2 h3 h4⟩

/-- Is it carried out? -/
def gOk (ops : Array Oper) (st : St) (o : Oper) : Option Bool :=
  match o.guard with
  | none => some true
  | some (j, want) =>
    match (ops[j]?).bind (·.dst) with
    | some d => match look st d with
      | some (.bool b) => some (b == want)
      | _ => none
    | none => none
theorem gOk_wanted {n : Nat} {ops : Array Oper} {o : Oper} {t : Bool} {a : Act} (h : gOk ops st o = some t) (ha : Agree n st a) : Region.wanted o (yielded ops a.tmps) = t := by
  unfold gOk at h
  unfold Region.wanted
  split at h
  · rename_i hg; rw [hg]; simpa using h
  · rename_i j want hg
    rw [hg]
    dsimp only at h ⊢
    split at h
    · rename_i d hd
      split at h
      · rename_i b hb
        have := ha.2.2 d _ hb
        have hy : yielded ops a.tmps j = some b := by
          unfold yielded
          rw [hd]
          simp only [Option.bind_some]
          rw [Array.getD_eq_getD_getElem?] at this
          cases hx : a.tmps[d]? with
          | none => rw [hx] at this; simp [undef] at this
          | some v => rw [hx] at this; simp only [Option.getD_some] at this; subst this; rfl
        rw [hy]
        cases h
        cases b <;> cases want <;> rfl
      · cases h
    · cases h

/-- It reads alone, and gives v. -/
def RO (c : Ctx) (st : St) (Γ : List Assn) (o : Oper) (v : Value) : Prop := ∀ a w, Agree c.n st a → Sat c.B c.F Γ w → (execOp a.eval o).run c.P w = .ok (.value v) w

def stput (d : Option Tmp) (v : Value) (st : St) : St := match d with | some d => (d, v) :: st | none => st
def dOk (d : Option Tmp) (n : Nat) : Bool := match d with | some d => Nat.blt d n | none => true
theorem Agree.put {n : Nat} {st : St} {a : Act} (h : Agree n st a) {d : Option Tmp} (hd : dOk d n = true) (v : Value) : Agree n (stput d v st) (a.put d v) := by
  cases d with
  | none => exact h
  | some d =>
    have hlt : d < n := Nat.le_of_ble_eq_true hd
    refine ⟨h.1, by rw [size_put]; exact h.2.1, fun t u hu => ?_⟩
    unfold stput look at hu
    cases e : Nat.beq d t with
    | true =>
      rw [e] at hu
      have := Nat.eq_of_beq_eq_true e
      subst this
      cases hu
      exact getD_put_same _ _ _ (Nat.lt_of_lt_of_le hlt h.2.1)
    | false =>
      rw [e] at hu
      rw [getD_put _ _ _ _ (fun e' => by cases e'; simp at e)]
      exact h.2.2 t u hu

theorem JS_cons {ops : Array Oper} {r : Oper} {rs : List Oper} {l : List Stp} {d : Tmp} {v : Value} (hd : r.dst = some d) (hv : look st d = some v) (hr : RO c st Γ r v) (h : JS c ops rs l k st Γ) : JS c ops (r :: rs) l k st Γ := by
  intro b cs a w h1 h2 h3 h4
  obtain ⟨h5, h6⟩ := h b cs a w h1 h2 h3 h4
  refine ⟨fun x hx => ?_, h6⟩
  rcases List.mem_cons.1 hx with rfl | hx
  · intro _ d' hd'
    rw [hd] at hd'; cases hd'
    rw [h3.2.2 d v hv]
    exact hr a w h3 h4
  · exact h5 x hx
theorem JS_off {ops : Array Oper} {r : Oper} {rs : List Oper} {l : List Stp} (hg : gOk ops st r = some false) (h : JS c ops rs l k st Γ) : JS c ops (r :: rs) l k st Γ := by
  intro b cs a w h1 h2 h3 h4
  obtain ⟨h5, h6⟩ := h b cs a w h1 h2 h3 h4
  refine ⟨fun x hx => ?_, h6⟩
  rcases List.mem_cons.1 hx with rfl | hx
  · intro hw
    rw [gOk_wanted hg h3] at hw; cases hw
  · exact h5 x hx

/-- Not carried out. -/
theorem JR_skip {ops : Array Oper} {o : Oper} {fl : Bool} {rs : List Oper} {l : List Stp} (hg : gOk ops st o = some false) (hd : dOk o.dst c.n = true) (h : JR c ops l k (stput o.dst undef st) Γ) : JR c ops (⟨o, fl, rs⟩ :: l) k st Γ := by
  intro b cs a w h1 h2 h3 h4
  unfold CR
  simp only [gOk_wanted hg h3, Bool.false_eq_true, if_false]
  exact h b cs _ w h1 h2 (h3.put hd undef) h4
/-- It reads alone: ahead of its turn; in its turn. -/
theorem JR_ro {ops : Array Oper} {o : Oper} {rs : List Oper} {l : List Stp} {v : Value} (hg : gOk ops st o = some true) (hd : dOk o.dst c.n = true) (hv : RO c st Γ o v) (h : JR c ops l k (stput o.dst v st) Γ) : JR c ops (⟨o, true, rs⟩ :: l) k st Γ := by
  intro b cs a w h1 h2 h3 h4
  unfold CR
  simp only [gOk_wanted hg h3, if_true]
  exact ⟨v, hv a w h3 h4, h b cs _ w h1 h2 (h3.put hd v) h4⟩
theorem JR_rv {ops : Array Oper} {o : Oper} {rs : List Oper} {l : List Stp} {v : Value} (hg : gOk ops st o = some true) (hd : dOk o.dst c.n = true) (hv : RO c st Γ o v) (h : JS c ops rs l k (stput o.dst v st) Γ) : JR c ops (⟨o, false, rs⟩ :: l) k st Γ := by
  intro b cs a w h1 h2 h3 h4
  unfold CR
  simp only [gOk_wanted hg h3, if_true, Bool.false_eq_true, if_false]
  rw [hv a w h3 h4]
  exact h b cs _ w h1 h2 (h3.put hd v) h4
/-- A test in the middle of a region: by cases. -/
theorem JR_cases {ops : Array Oper} {l : List Stp} (p : Prop) (h1 : p → JR c ops l k st Γ) (h2 : ¬ p → JR c ops l k st Γ) : JR c ops l k st Γ := by
  by_cases h : p
  · exact h1 h
  · exact h2 h
end
end Go.Proofs.YtaeefjcbmkiiaaaGreatDoor.Sl
/- What each operation does, said of temporaries and memory: the ones that read; a call; a new variable; a store. -/
namespace Go.Proofs.YtaeefjcbmkiiaaaGreatDoor.Sl
open Go Go.RowKit

theorem run_underlying {P : Program} {T : TypeId} {d : TypeDesc} (h : P.underlying T = some d) (w : World) : (underlying T).run P w = .ok d w := by
  simp [underlying, h]
theorem run_isAgg {P : Program} {T : TypeId} {t : Bool} (h : aggOf P T = some t) (w : World) : (isAgg T).run P w = .ok t w := by
  unfold aggOf at h
  unfold isAgg
  cases hu : P.underlying T with
  | none => rw [hu] at h; cases h
  | some d =>
    rw [hu] at h
    rw [Sem.run_bind, run_underlying hu]
    cases d <;> simp at h <;> subst h <;> rfl
theorem run_typeInfo {P : Program} {T : TypeId} {i : TypeInfo} (h : P.info? T = some i) (w : World) : (typeInfo T).run P w = .ok i w := by
  simp [typeInfo, h]
theorem run_sizeOf {P : Program} {T : TypeId} {n : Nat} (h : szOf P T = some n) (w : World) : (sizeOf T).run P w = .ok n w := by
  unfold szOf at h
  obtain ⟨i, hi, rfl⟩ := Option.map_eq_some_iff.1 h
  simp [sizeOf, run_typeInfo hi]
theorem run_zeroValue {P : Program} {T : TypeId} {z : Value} (h : (P.info? T).bind (·.zero) = some z) (w : World) : (zeroValue T).run P w = .ok z w := by
  obtain ⟨i, hi, hz⟩ := Option.bind_eq_some_iff.1 h
  simp [zeroValue, run_typeInfo hi, hz]
theorem add_none (b o n : Nat) : (⟨b, o, none⟩ : Addr).add n = ⟨b, o + n, none⟩ := by
  unfold Addr.add; split <;> simp_all
theorem szOf_of {P : Program} {E sz bytes : Nat} (h : (P.info? E).map (fun i => (i.size, i.bytes)) = some (sz, bytes)) : szOf P E = some sz := by
  unfold szOf; cases hi : P.info? E with | none => rw [hi] at h; cases h | some i => rw [hi] at h; simp at h; simp [h.1]

section
variable {c : Ctx} {k : List Item} {st : St} {Γ : List Assn} {d : Option Tmp} {ty : TypeId} {pos : String} {af : Array Edge} {g : Option (Nat × Bool)}

/-! ### operations that read nothing -/
theorem RO_move {x : Operand} {v : Value} (hv : ev st x = some v) : RO c st Γ ⟨d, .move x, ty, pos, af, g⟩ v := fun a w ha _ => by
  simp [execOp, ev_eval ha hv]
theorem RO_assign {x : Operand} {v : Value} (hv : ev st x = some v) : RO c st Γ ⟨d, .assign x, ty, pos, af, g⟩ v := fun a w ha _ => by
  simp [execOp, ev_eval ha hv]
theorem RO_pick_t {x y z : Operand} {v : Value} (hc : ev st x = some (.bool true)) (hv : ev st y = some v) : RO c st Γ ⟨d, .pick x y z, ty, pos, af, g⟩ v := fun a w ha _ => by
  simp [execOp, ev_eval ha hv, ev_eval ha hc, asBool]
theorem RO_pick_f {x y z : Operand} {v : Value} (hc : ev st x = some (.bool false)) (hv : ev st z = some v) : RO c st Γ ⟨d, .pick x y z, ty, pos, af, g⟩ v := fun a w ha _ => by
  simp [execOp, ev_eval ha hv, ev_eval ha hc, asBool]
theorem RO_nilCheck {x : Operand} {p : Addr} (hv : ev st x = some (.pointer (some p))) : RO c st Γ ⟨d, .nilCheck x, ty, pos, af, g⟩ (.pointer (some p)) := fun a w ha _ => by
  simp [execOp, ev_eval ha hv]
theorem RO_fieldAddr {x : Operand} {T i b o off : Nat} [hf : FOff c.P T i off] (hv : ev st x = some (.pointer (some ⟨b, o, none⟩))) :
    RO c st Γ ⟨d, .fieldAddr T x i, ty, pos, af, g⟩ (.pointer (some ⟨b, o + off, none⟩)) := fun a w ha _ => by
  obtain ⟨s, h⟩ := hf.h
  unfold foffOf at h
  cases hu : c.P.underlying T with
  | none => rw [hu] at h; cases h
  | some ds =>
    rw [hu] at h
    cases ds <;> try (cases h; done)
    rename_i fs
    dsimp only at h
    cases hfi : fs[i]? with
    | none => rw [hfi] at h; cases h
    | some f =>
      rw [hfi] at h
      obtain ⟨s', hs', he⟩ := Option.map_eq_some_iff.1 h
      cases he
      simp [execOp, ev_eval ha hv, Instr.fieldAt, run_underlying hu, hfi, Instr.sureAddr, fieldPlace, run_sizeOf hs', add_none]
theorem RO_fieldAddr0 {x : Operand} {T i b off : Nat} [hf : FOff c.P T i off] (hv : ev st x = some (.pointer (some ⟨b, 0, none⟩))) :
    RO c st Γ ⟨d, .fieldAddr T x i, ty, pos, af, g⟩ (.pointer (some ⟨b, off, none⟩)) := by
  have := RO_fieldAddr (c := c) (Γ := Γ) (d := d) (ty := ty) (pos := pos) (af := af) (g := g) (T := T) (i := i) hv
  rwa [Nat.zero_add] at this
theorem RO_extract {x : Operand} {i : Nat} {vs : Array Value} {v : Value} (hv : ev st x = some (.tuple vs)) (hi : vs[i]? = some v) : RO c st Γ ⟨d, .extract x i, ty, pos, af, g⟩ v := fun a w ha _ => by
  simp [execOp, ev_eval ha hv, Instr.extract, hi]
theorem RO_not {x : Operand} {T : TypeId} {b : Bool} (hv : ev st x = some (.bool b)) : RO c st Γ ⟨d, .unOp .not T x, ty, pos, af, g⟩ (.bool (!b)) := fun a w ha _ => by
  simp [execOp, ev_eval ha hv, Op.unary]
theorem RO_neg {x : Operand} {T : TypeId} {k : IntKind} {n : Int} (hv : ev st x = some (.int k n)) : RO c st Γ ⟨d, .unOp .neg T x, ty, pos, af, g⟩ (.int k (k.wrap (0 - n))) := fun a w ha _ => by
  simp [execOp, ev_eval ha hv, Op.unary, Op.intArith]
theorem RO_convert {x : Operand} {S T : TypeId} {k k' j : IntKind} {n : Int} [hs : TInt c.P S k'] [ht : TInt c.P T k] (hv : ev st x = some (.int j n)) : RO c st Γ ⟨d, .convert S T x, ty, pos, af, g⟩ (.int k (k.wrap n)) := fun a w ha _ => by
  simp [execOp, ev_eval ha hv, convert, run_underlying hs.h, run_underlying ht.h, Conv.intToInt]
theorem RO_makeFunc {fn : Fn} {first captured : Array Operand} {fs cs : Array Value} (h1 : first.toList.mapM (ev st) = some fs.toList) (h2 : captured.toList.mapM (ev st) = some cs.toList) :
    RO c st Γ ⟨d, .makeFunc fn first captured, ty, pos, af, g⟩ (.func fn fs cs) := fun a w ha _ => by
  have key : ∀ (xs : List Operand) (vs : List Value), xs.mapM (ev st) = some vs → xs.map a.eval = vs := by
    intro xs
    induction xs with
    | nil => intro vs h; simp at h; simp [h]
    | cons x xs ih =>
      intro vs h
      simp only [List.mapM_cons, Option.bind_eq_bind, Option.bind_eq_some_iff] at h
      obtain ⟨v, hv, us, hu, h⟩ := h
      cases h
      simp [ev_eval ha hv, ih us hu]
  have e1 : first.map a.eval = fs := by rw [← Array.toList_inj]; simpa using key _ _ h1
  have e2 : captured.map a.eval = cs := by rw [← Array.toList_inj]; simpa using key _ _ h2
  simp [execOp, Instr.makeFunc, e1, e2]

/-! ### arithmetic, tests -/
theorem run_eqGuard_int {P : Program} {op : BinOp} {T : TypeId} {x y : Operand} {j k : IntKind} {m n : Int} {w : World} : (eqGuard op T x y (.int j m) (.int k n)).run P w = .ok () w := by
  unfold eqGuard; split <;> rfl
theorem RO_int {x y : Operand} {op : BinOp} {T U : TypeId} {k : IntKind} {m n : Int} {v : Value} (hx : ev st x = some (.int k m)) (hy : ev st y = some (.int k n)) (h : ∀ w, (binOp op T (.int k m) (.int k n)).run c.P w = .ok v w) :
    RO c st Γ ⟨d, .binOp op T x y U, ty, pos, af, g⟩ v := fun a w ha _ => by
  simp [execOp, ev_eval ha hx, ev_eval ha hy, run_eqGuard_int, h]
theorem RO_add {x y : Operand} {T U : TypeId} {k : IntKind} {m n : Int} (hx : ev st x = some (.int k m)) (hy : ev st y = some (.int k n)) : RO c st Γ ⟨d, .binOp .add T x y U, ty, pos, af, g⟩ (.int k (k.wrap (m + n))) :=
  RO_int hx hy fun w => by simp [binOp, Op.intArith]
theorem RO_sub {x y : Operand} {T U : TypeId} {k : IntKind} {m n : Int} (hx : ev st x = some (.int k m)) (hy : ev st y = some (.int k n)) : RO c st Γ ⟨d, .binOp .sub T x y U, ty, pos, af, g⟩ (.int k (k.wrap (m - n))) :=
  RO_int hx hy fun w => by simp [binOp, Op.intArith]
theorem RO_mul {x y : Operand} {T U : TypeId} {k : IntKind} {m n : Int} (hx : ev st x = some (.int k m)) (hy : ev st y = some (.int k n)) : RO c st Γ ⟨d, .binOp .mul T x y U, ty, pos, af, g⟩ (.int k (k.wrap (m * n))) :=
  RO_int hx hy fun w => by simp [binOp, Op.intArith]
theorem wrap_in {n : Int} (h1 : -9223372036854775808 ≤ n) (h2 : n ≤ 9223372036854775807) : IntKind.i64.wrap n = n := by
  unfold IntKind.wrap; simp [IntKind.bits, IntKind.signed]; omega
theorem RO_add_in {x y : Operand} {T U : TypeId} {m n : Int} (hx : ev st x = some (.int .i64 m)) (hy : ev st y = some (.int .i64 n)) (h : -9223372036854775808 ≤ m + n ∧ m + n ≤ 9223372036854775807) : RO c st Γ ⟨d, .binOp .add T x y U, ty, pos, af, g⟩ (.int .i64 (m + n)) := by
  have := RO_add (c := c) (Γ := Γ) (d := d) (ty := ty) (pos := pos) (af := af) (g := g) (T := T) (U := U) hx hy
  rwa [wrap_in h.1 h.2] at this
theorem RO_sub_in {x y : Operand} {T U : TypeId} {m n : Int} (hx : ev st x = some (.int .i64 m)) (hy : ev st y = some (.int .i64 n)) (h : -9223372036854775808 ≤ m - n ∧ m - n ≤ 9223372036854775807) : RO c st Γ ⟨d, .binOp .sub T x y U, ty, pos, af, g⟩ (.int .i64 (m - n)) := by
  have := RO_sub (c := c) (Γ := Γ) (d := d) (ty := ty) (pos := pos) (af := af) (g := g) (T := T) (U := U) hx hy
  rwa [wrap_in h.1 h.2] at this
theorem RO_mul_in {x y : Operand} {T U : TypeId} {m n : Int} (hx : ev st x = some (.int .i64 m)) (hy : ev st y = some (.int .i64 n)) (h : -9223372036854775808 ≤ m * n ∧ m * n ≤ 9223372036854775807) : RO c st Γ ⟨d, .binOp .mul T x y U, ty, pos, af, g⟩ (.int .i64 (m * n)) := by
  have := RO_mul (c := c) (Γ := Γ) (d := d) (ty := ty) (pos := pos) (af := af) (g := g) (T := T) (U := U) hx hy
  rwa [wrap_in h.1 h.2] at this
theorem RO_lss {x y : Operand} {T U : TypeId} {k : IntKind} {m n : Int} (hx : ev st x = some (.int k m)) (hy : ev st y = some (.int k n)) : RO c st Γ ⟨d, .binOp .lss T x y U, ty, pos, af, g⟩ (.bool (decide (m < n))) :=
  RO_int hx hy fun w => by simp [binOp, Op.intCmp]
theorem RO_leq {x y : Operand} {T U : TypeId} {k : IntKind} {m n : Int} (hx : ev st x = some (.int k m)) (hy : ev st y = some (.int k n)) : RO c st Γ ⟨d, .binOp .leq T x y U, ty, pos, af, g⟩ (.bool (decide (m ≤ n))) :=
  RO_int hx hy fun w => by simp [binOp, Op.intCmp]
theorem RO_gtr {x y : Operand} {T U : TypeId} {k : IntKind} {m n : Int} (hx : ev st x = some (.int k m)) (hy : ev st y = some (.int k n)) : RO c st Γ ⟨d, .binOp .gtr T x y U, ty, pos, af, g⟩ (.bool (decide (n < m))) :=
  RO_int hx hy fun w => by simp [binOp, Op.intCmp]
theorem RO_geq {x y : Operand} {T U : TypeId} {k : IntKind} {m n : Int} (hx : ev st x = some (.int k m)) (hy : ev st y = some (.int k n)) : RO c st Γ ⟨d, .binOp .geq T x y U, ty, pos, af, g⟩ (.bool (decide (n ≤ m))) :=
  RO_int hx hy fun w => by simp [binOp, Op.intCmp]
theorem RO_eql {x y : Operand} {T U : TypeId} {k : IntKind} {m n : Int} (hx : ev st x = some (.int k m)) (hy : ev st y = some (.int k n)) : RO c st Γ ⟨d, .binOp .eql T x y U, ty, pos, af, g⟩ (.bool (decide (m = n))) :=
  RO_int hx hy fun w => by simp [binOp, Op.intCmp]; rfl
theorem RO_neq {x y : Operand} {T U : TypeId} {k : IntKind} {m n : Int} (hx : ev st x = some (.int k m)) (hy : ev st y = some (.int k n)) : RO c st Γ ⟨d, .binOp .neq T x y U, ty, pos, af, g⟩ (.bool (!decide (m = n))) :=
  RO_int hx hy fun w => by simp [binOp, Op.intCmp, bne]; rfl

end
end Go.Proofs.YtaeefjcbmkiiaaaGreatDoor.Sl
/- What each operation does, said of temporaries and memory: reads of memory, new variables, stores, calls; strings. -/
namespace Go.Proofs.YtaeefjcbmkiiaaaGreatDoor.Sl
open Go Go.RowKit

/-! ### blocks of the list, found by their names -/
class InG (Γ : List Assn) (b : Nat) (o : outParam Obj) : Prop where
  h : ∃ Γ', Sel Γ (blk b o) Γ'
instance InG.here {Γ : List Assn} {b : Nat} {o : Obj} : InG (blk b o :: Γ) b o := ⟨_, .here⟩
instance (priority := low) InG.there {Γ : List Assn} {b : Nat} {o : Obj} {A : Assn} [h : InG Γ b o] : InG (A :: Γ) b o := let ⟨_, s⟩ := h.h; ⟨_, .there s⟩
/-- .. and what it stands beside. -/
class SelG (Γ : List Assn) (b : Nat) (o : outParam Obj) (Γ' : outParam (List Assn)) : Prop where
  h : Sel Γ (blk b o) Γ'
instance SelG.here {Γ : List Assn} {b : Nat} {o : Obj} : SelG (blk b o :: Γ) b o Γ := ⟨.here⟩
instance (priority := low) SelG.there {Γ Γ' : List Assn} {b : Nat} {o : Obj} {A : Assn} [h : SelG Γ b o Γ'] : SelG (A :: Γ) b o (A :: Γ') := ⟨.there h.h⟩

/-- n of a list's values from a place on. -/
inductive Take : List Value → Nat → List Value → Prop
  | zero {l : List Value} : Take l 0 []
  | succ {x : Value} {l vs : List Value} {n : Nat} : Take l n vs → Take (x :: l) (n + 1) (x :: vs)
inductive GetN : List Value → Nat → Nat → List Value → Prop
  | here {l vs : List Value} {n : Nat} : Take l n vs → GetN l 0 n vs
  | there {x : Value} {l vs : List Value} {o n : Nat} : GetN l o n vs → GetN (x :: l) (o + 1) n vs
/-- Values laid over a list's from a place on. -/
inductive PutN : List Value → Nat → List Value → List Value → Prop
  | nil {l : List Value} : PutN l 0 [] l
  | put {x v : Value} {l vs l' : List Value} : PutN l 0 vs l' → PutN (x :: l) 0 (v :: vs) (v :: l')
  | skip {x v : Value} {l vs l' : List Value} {n : Nat} : PutN l n (v :: vs) l' → PutN (x :: l) (n + 1) (v :: vs) (x :: l')
theorem Take.get {l vs : List Value} {n : Nat} (h : Take l n vs) : vs.length = n ∧ ∀ i, i < n → l[i]? = vs[i]? := by
  induction h with
  | zero => exact ⟨rfl, fun i hi => by omega⟩
  | succ _ ih => exact ⟨by simp [ih.1], fun i hi => by cases i with | zero => rfl | succ i => simpa using ih.2 i (by omega)⟩
theorem GetN.get {l vs : List Value} {o n : Nat} (h : GetN l o n vs) : vs.length = n ∧ ∀ i, i < n → l[o + i]? = vs[i]? := by
  induction h with
  | here h => exact ⟨h.get.1, fun i hi => by rw [Nat.zero_add]; exact h.get.2 i hi⟩
  | there _ ih => exact ⟨ih.1, fun i hi => by rw [show ∀ o : Nat, o + 1 + i = (o + i) + 1 by intro o; omega]; simpa using ih.2 i hi⟩
theorem PutN.get {l vs l' : List Value} {o : Nat} (h : PutN l o vs l') : o + vs.length ≤ l.length ∧ l'.length = l.length ∧ ∀ i, l'[i]? = if o ≤ i ∧ i < o + vs.length then vs[i - o]? else l[i]? := by
  induction h with
  | nil => exact ⟨by simp, rfl, fun i => by rw [if_neg (by simp)]⟩
  | @put x v l vs l' _ ih =>
    obtain ⟨h1, h2, h3⟩ := ih
    refine ⟨by simp at h1 ⊢; omega, by simp [h2], fun i => ?_⟩
    cases i with
    | zero => simp
    | succ i =>
      have := h3 i
      simp only [List.getElem?_cons_succ, this, List.length_cons, Nat.zero_add, Nat.zero_le, true_and, Nat.sub_zero]
      by_cases hi : i < vs.length
      · rw [if_pos hi, if_pos (by omega)]
      · rw [if_neg hi, if_neg (by omega)]
  | @skip x v l vs l' n _ ih =>
    obtain ⟨h1, h2, h3⟩ := ih
    refine ⟨by simp at h1 ⊢; omega, by simp [h2], fun i => ?_⟩
    cases i with
    | zero => simp
    | succ i =>
      have := h3 i
      simp only [List.getElem?_cons_succ, this]
      by_cases hi : n ≤ i ∧ i < n + (v :: vs).length
      · rw [if_pos hi, if_pos (by omega), show i + 1 - (n + 1) = i - n by omega]
      · rw [if_neg hi, if_neg (by omega)]

section
variable {c : Ctx} {k : List Item} {st : St} {Γ : List Assn} {d : Option Tmp} {ty : TypeId} {pos : String} {af : Array Edge} {g : Option (Nat × Bool)}

theorem cell_of {w : World} {b o : Nat} {l : List Value} {E : TypeId} {fz : Nat × Nat} {v : Value} (h : w.heap[b]? = some (.cells ⟨l⟩ E fz)) (hv : l[o]? = some v) : w.cell? ⟨b, o, none⟩ = some v := by
  unfold World.cell?
  simp only [h]
  simpa using hv

theorem run_loadCells {P : Program} {w : World} {b o : Nat} {vs : List Value} : (∀ i, i < vs.length → w.cell? ⟨b, o + i, none⟩ = vs[i]?) → ∀ (n i : Nat) (acc : Array Value), i + n = vs.length → acc.toList = vs.take i → (loadCellsFrom ⟨b, o, none⟩ i n acc).run P w = .ok ⟨vs⟩ w := by
  intro h n
  induction n with
  | zero =>
    intro i acc hi ha
    simp only [loadCellsFrom, Sem.run_pure]
    have : acc = ⟨vs⟩ := by rw [← Array.toList_inj]; rw [ha, List.take_of_length_le (by omega)]
    rw [this]
  | succ n ih =>
    intro i acc hi ha
    have hlt : i < vs.length := by omega
    have hc := h i hlt
    rw [List.getElem?_eq_getElem hlt] at hc
    simp only [loadCellsFrom, Sem.run_bind, run_load, add_none, hc, Result.andThen_ok]
    refine ih (i + 1) _ (by omega) ?_
    rw [Array.toList_push, ha, List.take_succ_eq_append_getElem hlt]

theorem run_loadVar_sc {P : Program} {w : World} {T b o : Nat} {v : Value} (ht : aggOf P T = some false) (h : w.cell? ⟨b, o, none⟩ = some v) : (loadVar T ⟨b, o, none⟩).run P w = .ok v w := by
  simp [loadVar, run_isAgg ht, h]
theorem run_loadVar_agg {P : Program} {w : World} {T b o n : Nat} {vs : List Value} (ht : aggOf P T = some true) (hs : szOf P T = some n) (hn : vs.length = n) (h : ∀ i, i < n → w.cell? ⟨b, o + i, none⟩ = vs[i]?) : (loadVar T ⟨b, o, none⟩).run P w = .ok (.agg ⟨vs⟩) w := by
  subst hn
  simp [loadVar, run_isAgg ht, run_sizeOf hs, loadCells, run_loadCells h vs.length 0 #[] (by simp) (by simp)]

/-- A variable's value, read. -/
theorem RO_load {x : Operand} {T b o : Nat} {l : List Value} {E : TypeId} {fz : Nat × Nat} {v : Value} [ht : TSc c.P T] (hv : ev st x = some (.pointer (some ⟨b, o, none⟩))) [hg : InG Γ b (.cells ⟨l⟩ E fz)] (hl : l[o]? = some v) :
    RO c st Γ ⟨d, .load T x, ty, pos, af, g⟩ v := fun a w ha hS => by
  obtain ⟨_, hs⟩ := hg.h
  simp [execOp, ev_eval ha hv, Instr.loadAt, Instr.sureAddr, run_loadVar_sc ht.a (cell_of (hS.blk hs).2 hl)]
theorem RO_loadAgg {x : Operand} {T b o n : Nat} {l vs : List Value} {E : TypeId} {fz : Nat × Nat} [ht : TAgg c.P T n] (hv : ev st x = some (.pointer (some ⟨b, o, none⟩))) [hg : InG Γ b (.cells ⟨l⟩ E fz)] (hl : GetN l o n vs) :
    RO c st Γ ⟨d, .load T x, ty, pos, af, g⟩ (.agg ⟨vs⟩) := fun a w ha hS => by
  obtain ⟨_, hs⟩ := hg.h
  obtain ⟨h1, h2⟩ := hl.get
  have := run_loadVar_agg (P := c.P) ht.a ht.s h1 (w := w) (b := b) (o := o) (fun i hi => by
    have hi' : i < vs.length := by omega
    rw [List.getElem?_eq_getElem hi']
    exact cell_of (hS.blk hs).2 (by rw [h2 i hi, List.getElem?_eq_getElem hi']))
  simp [execOp, ev_eval ha hv, Instr.loadAt, Instr.sureAddr, this]

/-! ### new variables, stores -/
theorem JS_of {ops : Array Oper} {rs : List Oper} {l : List Stp} {b : Frame} {cs : List Frame} {a : Act} {w : World} (h : JS c ops rs l k st Γ) (h1 : b.fn = c.f) (h2 : b.kind = .normal) (h3 : Agree c.n st a) (h4 : Sat c.B c.F Γ w) :
    (∀ r ∈ rs, Stable c.P ops r a w) ∧ CR c.P ops (Arr c b cs k) l a w := h b cs a w h1 h2 h3 h4

theorem JR_box {ops : Array Oper} {rs : List Oper} {l : List Stp} {x : Operand} {T : TypeId} {v : Value} (hg : gOk ops st ⟨d, .box T x, ty, pos, af, g⟩ = some true) (hd : dOk d c.n = true) (hv : ev st x = some v)
    (h : ∀ b, JS c ops rs l k (stput d (.pointer (some ⟨b, 0, none⟩)) st) (blk b (.cells v.cells T (0, 0)) :: Γ)) : JR c ops (⟨⟨d, .box T x, ty, pos, af, g⟩, false, rs⟩ :: l) k st Γ := by
  intro b cs a w h1 h2 h3 h4
  unfold CR
  simp only [gOk_wanted hg h3, if_true, Bool.false_eq_true, if_false]
  have : (execOp a.eval ⟨d, .box T x, ty, pos, af, g⟩).run c.P w = .ok (.value (.pointer (some ⟨w.heap.size, 0, none⟩))) (w.alloc (.cells v.cells T (0, 0))) := by
    simp [execOp, ev_eval h3 hv, Instr.box, newVar, newRow]
  rw [this]
  exact JS_of (h w.heap.size) h1 h2 (h3.put hd _) (h4.alloc _)
theorem JR_alloc {ops : Array Oper} {rs : List Oper} {l : List Stp} {T : TypeId} {z : Value} [hz : TZero c.P T z] (hg : gOk ops st ⟨d, .alloc T, ty, pos, af, g⟩ = some true) (hd : dOk d c.n = true)
    (h : ∀ b, JS c ops rs l k (stput d (.pointer (some ⟨b, 0, none⟩)) st) (blk b (.cells z.cells T (0, 0)) :: Γ)) : JR c ops (⟨⟨d, .alloc T, ty, pos, af, g⟩, false, rs⟩ :: l) k st Γ := by
  intro b cs a w h1 h2 h3 h4
  unfold CR
  simp only [gOk_wanted hg h3, if_true, Bool.false_eq_true, if_false]
  have : (execOp a.eval ⟨d, .alloc T, ty, pos, af, g⟩).run c.P w = .ok (.value (.pointer (some ⟨w.heap.size, 0, none⟩))) (w.alloc (.cells z.cells T (0, 0))) := by
    simp [execOp, Instr.alloc, newVar, newRow, run_zeroValue hz.z]
  rw [this]
  exact JS_of (h w.heap.size) h1 h2 (h3.put hd _) (h4.alloc _)

def one (v : Value) : Bool := match v with | .agg _ | .tuple _ => false | _ => true

theorem run_storeCells {P : Program} {b : Nat} {E : TypeId} {o : Nat} : ∀ (vs : List Value) (i : Nat) (l l' : List Value) (w : World), vs.all one = true → w.heap[b]? = some (.cells ⟨l⟩ E (0, 0)) → o + i + vs.length ≤ l.length →
    l'.length = l.length → (∀ j, l'[j]? = if o + i ≤ j ∧ j < o + i + vs.length then vs[j - (o + i)]? else l[j]?) →
    ∃ w', (storeCells ⟨b, o, none⟩ vs i).run P w = .ok () w' ∧ w'.heap = w.heap.setIfInBounds b (.cells ⟨l'⟩ E (0, 0)) ∧ w'.os = w.os ∧ w'.tape = w.tape ∧ w'.output = w.output
  | [], i, l, l', w, _, hb, hle, hlen, hl => by
    have : l' = l := by
      apply List.ext_getElem?
      intro j
      rw [hl j, if_neg (by simp)]
    subst this
    refine ⟨w, rfl, ?_, rfl, rfl, rfl⟩
    apply Array.ext_getElem?
    intro j
    by_cases e : b = j
    · subst e
      have hlt : b < w.heap.size := by
        rcases Nat.lt_or_ge b w.heap.size with h | h
        · exact h
        · rw [Array.getElem?_eq_none h] at hb; cases hb
      rw [hb]; simp [hlt]
    · rw [Array.getElem?_setIfInBounds_ne e]
  | v :: vs, i, l, l', w, hv, hb, hle, hlen, hl => by
    simp only [List.all_cons, Bool.and_eq_true] at hv
    simp only [List.length_cons] at hle hl
    have hlt : b < w.heap.size := by
      rcases Nat.lt_or_ge b w.heap.size with h | h
      · exact h
      · rw [Array.getElem?_eq_none h] at hb; cases hb
    have hol : o + i < l.length := by omega
    have hcell : w.cell? ⟨b, o + i, none⟩ = some l[o + i] := cell_of hb (List.getElem?_eq_getElem hol)
    have hfz : w.frozen? ⟨b, o + i, none⟩ = false := by unfold World.frozen?; simp [hb]
    have hone : v.oneCell' = true := by have := hv.1; cases v <;> first | rfl | (simp [one] at this)
    let w1 := w.setCell ⟨b, o + i, none⟩ v
    have hw1 : w1.heap = w.heap.setIfInBounds b (.cells ⟨l.set (o + i) v⟩ E (0, 0)) := by
      apply Array.ext_getElem?
      intro j
      simp only [w1, World.setCell, Array.getElem?_modify]
      by_cases e : b = j
      · subst e; rw [if_pos rfl, hb]; simp [hlt]
      · rw [if_neg e, Array.getElem?_setIfInBounds_ne e]
    obtain ⟨w', hr, hh, h1, h2, h3⟩ := run_storeCells (P := P) (b := b) (E := E) (o := o) vs (i + 1) (l.set (o + i) v) l' w1 hv.2 (by rw [hw1]; simp [hlt]) (by simp; omega) (by simp [hlen]) (fun j => by
      rw [hl j]
      by_cases e : o + i = j
      · subst e
        rw [if_pos (by omega), if_neg (by omega)]
        simp [hol]
      · rw [List.getElem?_set_ne e]
        by_cases hj : o + i ≤ j ∧ j < o + i + (vs.length + 1)
        · rw [if_pos hj, if_pos (by omega), show j - (o + i) = (j - (o + (i + 1))) + 1 by omega]; rfl
        · rw [if_neg hj, if_neg (by omega)])
    refine ⟨w', ?_, ?_, h1, h2, h3⟩
    · simp only [storeCells, Sem.run_bind, add_none, run_store _ _ _ _ _ hone, hcell, hfz, Bool.false_eq_true, if_false, Result.andThen_ok]
      exact hr
    · rw [hh, hw1]
      apply Array.ext_getElem?
      intro j
      by_cases e : b = j
      · subst e; simp [hlt]
      · rw [Array.getElem?_setIfInBounds_ne e, Array.getElem?_setIfInBounds_ne e, Array.getElem?_setIfInBounds_ne e]

theorem upd_sat {Γ' : List Assn} {b : Nat} {o o' : Obj} {w w' : World} (h : Sat c.B c.F Γ w) (s : Sel Γ (blk b o) Γ') (hw : w'.heap = w.heap.setIfInBounds b o') (h2 : w'.os = w.os) (h3 : w'.tape = w.tape) (h4 : w'.output = w.output) :
    Sat c.B c.F (blk b o' :: Γ') w' := (h.perm s.perm).write hw h2 h3 h4

theorem JR_store {ops : Array Oper} {rs : List Oper} {l : List Stp} {x y : Operand} {T b o n : Nat} {cl cl' vs : List Value} {E : TypeId} {Γ' : List Assn} {v : Value} (hg : gOk ops st ⟨d, .store T x y, ty, pos, af, g⟩ = some true) (hd : dOk d c.n = true)
    (hx : ev st x = some (.pointer (some ⟨b, o, none⟩))) (hy : ev st y = some v) [hs : SelG Γ b (.cells ⟨cl⟩ E (0, 0)) Γ'] (hsz : szOf c.P T = some n) (hvs : v.cells = ⟨vs⟩) (hn : vs.length = n) (hone : vs.all one = true) (hp : PutN cl o vs cl')
    (h : JS c ops rs l k (stput d undef st) (blk b (.cells ⟨cl'⟩ E (0, 0)) :: Γ')) : JR c ops (⟨⟨d, .store T x y, ty, pos, af, g⟩, false, rs⟩ :: l) k st Γ := by
  intro b' cs a w h1 h2 h3 h4
  unfold CR
  simp only [gOk_wanted hg h3, if_true, Bool.false_eq_true, if_false]
  obtain ⟨hp1, hp2, hp3⟩ := hp.get
  obtain ⟨w', hr, hh, e1, e2, e3⟩ := run_storeCells (P := c.P) (E := E) (o := o) vs 0 cl cl' w hone (h4.blk hs.h).2 (by omega) hp2 (fun j => by simpa using hp3 j)
  have : (execOp a.eval ⟨d, .store T x y, ty, pos, af, g⟩).run c.P w = .ok .skip w' := by
    simp [execOp, ev_eval h3 hx, ev_eval h3 hy, Instr.storeAt, Instr.sureAddr, storeVar, hvs, run_sizeOf hsz, hn, hr]
  rw [this]
  exact JS_of h h1 h2 (h3.put hd _) (upd_sat h4 hs.h hh e1 e2 e3)

/-! ### calls -/
theorem run_callFunc {P : Program} {f : FuncId} {args : Array Value} [hf : IsFn P f] {w : World} : (callFunc f args).run P w = .ok (.enter f args) w := by
  obtain ⟨fn, h1, h2, h3⟩ := hf.h
  unfold callFunc
  simp only [Sem.run_bind, run_program, Result.andThen_ok, h1, h2, h3, Bool.false_eq_true, if_false]
  rfl
theorem map_eval {n : Nat} {a : Act} (ha : Agree n st a) : ∀ (xs : List Operand) (vs : List Value), xs.mapM (ev st) = some vs → xs.map a.eval = vs := by
  intro xs
  induction xs with
  | nil => intro vs h; simp at h; simp [h]
  | cons x xs ih =>
    intro vs h
    simp only [List.mapM_cons, Option.bind_eq_bind, Option.bind_eq_some_iff] at h
    obtain ⟨v, hv, us, hu, h⟩ := h
    cases h
    simp [ev_eval ha hv, ih us hu]
/-- The values of a list of operands. -/
inductive Evs (st : St) : List Operand → List Value → Prop
  | nil : Evs st [] []
  | cons {x : Operand} {v : Value} {xs : List Operand} {vs : List Value} : ev st x = some v → Evs st xs vs → Evs st (x :: xs) (v :: vs)
theorem Evs.map {n : Nat} {a : Act} (ha : Agree n st a) {xs : List Operand} {vs : List Value} (h : Evs st xs vs) : xs.map a.eval = vs := by
  induction h with
  | nil => rfl
  | cons h1 _ ih => simp [ev_eval ha h1, ih]

theorem run_call {P : Program} {a : Act} {x : Operand} {xs : List Operand} {ats : Array TypeId} {f : FuncId} {first captured : Array Value} {vs : List Value} [IsFn P f] {w : World} (hx : a.eval x = .func (.func f) first captured) (hvs : xs.map a.eval = vs) :
    (execOp a.eval ⟨d, .call ⟨.value x, ⟨xs⟩, ats⟩, ty, pos, af, g⟩).run P w = .ok (.enter f (first ++ (⟨vs⟩ : Array Value) ++ captured)) w := by
  have hargs : (⟨xs⟩ : Array Operand).map a.eval = ⟨vs⟩ := by rw [← hvs]; rw [← Array.toList_inj]; simp
  simp only [execOp, resolve, hargs, hx, Deferred.ofValue, Sem.run_bind, Sem.run_pure, Result.andThen_ok, invoke, run_callFunc]

/-- A call, by its contract. -/
theorem JR_call {ops : Array Oper} {rs : List Oper} {l : List Stp} {x : Operand} {xs : List Operand} {ats : Array TypeId} {f : FuncId} {first captured : Array Value} {vs : List Value} {Pre R : List Assn} {Q : Value → List Assn → Prop} [IsFn c.P f]
    (hg : gOk ops st ⟨d, .call ⟨.value x, ⟨xs⟩, ats⟩, ty, pos, af, g⟩ = some true) (hd : dOk d c.n = true) (hx : ev st x = some (.func (.func f) first captured)) (hvs : Evs st xs vs) (ht : Tr c.P f (first.toList ++ vs ++ captured.toList) Pre Q) (hs : Split Γ Pre R)
    (h : ∀ v Γ', Q v Γ' → JS c ops rs l k (stput d v st) (Γ' ++ R)) : JR c ops (⟨⟨d, .call ⟨.value x, ⟨xs⟩, ats⟩, ty, pos, af, g⟩, false, rs⟩ :: l) k st Γ := by
  intro b cs a w h1 h2 h3 h4
  unfold CR
  simp only [gOk_wanted hg h3, if_true, Bool.false_eq_true, if_false]
  rw [run_call (ev_eval h3 hx) (hvs.map h3)]
  have hc := ht c.B (all (c.F :: R)) w (h4.perm hs.perm).frame
  rw [show (first.toList ++ vs ++ captured.toList).toArray = first ++ (⟨vs⟩ : Array Value) ++ captured by rw [← Array.toList_inj]; simp] at hc
  refine hc.mono ?_
  rintro e w' ⟨v, Γ', rfl, hQ, hS⟩
  exact JS_of (h v Γ' hQ) h1 h2 (h3.put hd v) hS.unframe
/-- A call that makes new memory alone, by what is known of its run in this world. -/
theorem Sat.below {B : World} {F : Assn} {w w' : World} (h : Sat B F Γ w) (hb : Below w.heap.size w w') : Sat B F Γ w' := by
  obtain ⟨h0, m, hm, hs⟩ := h
  refine ⟨h0.trans (hb.mono h0.size), m, fun b o e => ?_, hs⟩
  obtain ⟨h1, h2⟩ := hm b o e
  have hlt : b < w.heap.size := by
    rcases Nat.lt_or_ge b w.heap.size with h | h
    · exact h
    · rw [Array.getElem?_eq_none h] at h2; cases h2
  exact ⟨h1, by rw [hb.block b hlt]; exact h2⟩
theorem JR_callBelow {ops : Array Oper} {rs : List Oper} {l : List Stp} {x : Operand} {xs : List Operand} {ats : Array TypeId} {f : FuncId} {first captured : Array Value} {vs : List Value} {Q : Value → Prop} [IsFn c.P f]
    (hg : gOk ops st ⟨d, .call ⟨.value x, ⟨xs⟩, ats⟩, ty, pos, af, g⟩ = some true) (hd : dOk d c.n = true) (hx : ev st x = some (.func (.func f) first captured)) (hvs : Evs st xs vs)
    (ht : ∀ w, Sat c.B c.F Γ w → Calls c.P f (first.toList ++ vs ++ captured.toList).toArray w fun e w' => ∃ v, e = .returned v ∧ Q v ∧ Below w.heap.size w w')
    (h : ∀ v, Q v → JS c ops rs l k (stput d v st) Γ) : JR c ops (⟨⟨d, .call ⟨.value x, ⟨xs⟩, ats⟩, ty, pos, af, g⟩, false, rs⟩ :: l) k st Γ := by
  intro b cs a w h1 h2 h3 h4
  unfold CR
  simp only [gOk_wanted hg h3, if_true, Bool.false_eq_true, if_false]
  rw [run_call (ev_eval h3 hx) (hvs.map h3)]
  have hc := ht w h4
  rw [show (first.toList ++ vs ++ captured.toList).toArray = first ++ (⟨vs⟩ : Array Value) ++ captured by rw [← Array.toList_inj]; simp] at hc
  refine hc.mono ?_
  rintro e w' ⟨v, rfl, hQ, hS⟩
  exact JS_of (h v hQ) h1 h2 (h3.put hd v) (h4.below hS)
/-- .. and of a contract that asks nothing of memory: it gives that. -/
theorem Tr.below {P : Program} {f : FuncId} {args : List Value} {Q : Value → Prop} (h : ∀ w, Calls P f args.toArray w fun e w' => ∃ v, e = .returned v ∧ Q v ∧ Below w.heap.size w w') : Tr P f args [] fun v Γ => Q v ∧ Γ = [] :=
  fun _ _ w hS => (h w).mono fun _ _ ⟨v, he, hQ, hb⟩ => ⟨v, [], he, ⟨hQ, rfl⟩, hS.below hb⟩

/-! ### the built-in functions that read -/
theorem run_builtin {P : Program} {a : Act} {bi : Builtin} {xs : List Operand} {ats : Array TypeId} {vs : List Value} {w : World} (hvs : xs.map a.eval = vs) {r : Result Next}
    (h : ∀ cs, (builtin bi ats ty cs ⟨vs⟩).run P w = r) : (execOp a.eval ⟨d, .call ⟨.builtin bi, ⟨xs⟩, ats⟩, ty, pos, af, g⟩).run P w = r := by
  have hargs : (⟨xs⟩ : Array Operand).map a.eval = ⟨vs⟩ := by rw [← hvs]; rw [← Array.toList_inj]; simp
  simp only [execOp, resolve, hargs, Sem.run_bind, Sem.run_pure, Result.andThen_ok, invoke, h]
theorem RO_len_str {x : Operand} {T : TypeId} {s : ByteArray} [ht : TStr c.P T] (hv : ev st x = some (.string s)) : RO c st Γ ⟨d, .call ⟨.builtin .len, #[x], #[T]⟩, ty, pos, af, g⟩ (.int .i64 s.size) := fun a w ha _ => by
  refine run_builtin (vs := [.string s]) (by simp [ev_eval ha hv]) fun cs => ?_
  simp [builtin, Builtin.len_, run_underlying ht.h, goInt]
theorem RO_len_slice {x : Operand} {T E : TypeId} {p : Option Addr} {n m : Nat} [ht : TSlice c.P T E] (hv : ev st x = some (.slice p n m)) : RO c st Γ ⟨d, .call ⟨.builtin .len, #[x], #[T]⟩, ty, pos, af, g⟩ (.int .i64 n) := fun a w ha _ => by
  refine run_builtin (vs := [.slice p n m]) (by simp [ev_eval ha hv]) fun cs => ?_
  simp [builtin, Builtin.len_, run_underlying ht.h, goInt]
theorem RO_max {x y : Operand} {ats : Array TypeId} {k : IntKind} {m n : Int} (hx : ev st x = some (.int k m)) (hy : ev st y = some (.int k n)) : RO c st Γ ⟨d, .call ⟨.builtin .max, #[x, y], ats⟩, ty, pos, af, g⟩ (.int k (max m n)) := fun a w ha _ => by
  refine run_builtin (vs := [.int k m, .int k n]) (by simp [ev_eval ha hx, ev_eval ha hy]) fun cs => ?_
  simp [builtin, Builtin.max_, Builtin.max2]
  split <;> omega
theorem RO_min {x y : Operand} {ats : Array TypeId} {k : IntKind} {m n : Int} (hx : ev st x = some (.int k m)) (hy : ev st y = some (.int k n)) : RO c st Γ ⟨d, .call ⟨.builtin .min, #[x, y], ats⟩, ty, pos, af, g⟩ (.int k (min m n)) := fun a w ha _ => by
  refine run_builtin (vs := [.int k m, .int k n]) (by simp [ev_eval ha hx, ev_eval ha hy]) fun cs => ?_
  simp [builtin, Builtin.min_, Builtin.min2]
  split <;> omega
end
end Go.Proofs.YtaeefjcbmkiiaaaGreatDoor.Sl
/- The rules of a walk under short names, their side facts found by computing. -/
namespace Go.Proofs.YtaeefjcbmkiiaaaGreatDoor.Sl
open Go Go.RowKit
section
variable {c : Ctx} {k : List Item} {st : St} {Γ : List Assn} {d : Option Tmp} {ty : TypeId} {pos : String} {af : Array Edge} {g : Option (Nat × Bool)} {ops : Array Oper} {rs : List Oper} {l : List Stp} {fl : Bool}

/-! ### code -/
theorem sq {x y : Code} (h : J c (.code x :: .code y :: k) st Γ) : J c (.code (.seq x y) :: k) st Γ := J_seq h
theorem rg {id : Nat} {ops : Array Oper} (h : JR c ops (ops.toList.map Stp.plain) k st Γ) : J c (.code (.region id ops false) :: k) st Γ := J_region h
theorem nl (h : J c k st Γ) : JR c ops [] k st Γ := h
theorem jn (h : JR c ops l k st Γ) : JS c ops [] l k st Γ := JS_nil h
theorem kp (h : J c k st Γ) : J c (.code .skip :: k) st Γ := J_skip h
theorem bl {id : Nat} {x : Code} (h : J c (.code x :: .inBlock id :: k) st Γ) : J c (.code (.block id x) :: k) st Γ := J_block h
theorem ib {id : Nat} (h : J c k st Γ) : J c (.inBlock id :: k) st Γ := J_inBlock h
theorem xt {id : Nat} {k' : List Item} (h : J c k' st Γ) (hk : exitTo id k = some k' := by rfl) : J c (.code (.exit id) :: k) st Γ := J_exit hk h
theorem lb {l : Nat} (h : J c k st Γ) : J c (.code (.label l) :: k) st Γ := J_label h
theorem ct {x : Operand} {y z : Code} (h : J c (.code y :: k) st Γ) (hv : ev st x = some (.bool true) := by rfl) : J c (.code (.cond x y z) :: k) st Γ := J_cond_t hv h
theorem cf {x : Operand} {y z : Code} (h : J c (.code z :: k) st Γ) (hv : ev st x = some (.bool false) := by rfl) : J c (.code (.cond x y z) :: k) st Γ := J_cond_f hv h
theorem cd {x : Operand} {y z : Code} {p : Prop} {_ : Decidable p} (ht : p → J c (.code y :: k) st Γ) (hf : ¬ p → J c (.code z :: k) st Γ) (hv : ev st x = some (.bool (decide p)) := by rfl) : J c (.code (.cond x y z) :: k) st Γ := J_cond_d hv ht hf
theorem cn {x : Operand} {y z : Code} {p : Prop} {_ : Decidable p} (ht : ¬ p → J c (.code y :: k) st Γ) (hf : p → J c (.code z :: k) st Γ) (hv : ev st x = some (.bool (!decide p)) := by rfl) : J c (.code (.cond x y z) :: k) st Γ := J_cond_nd hv ht hf
theorem cb {x : Operand} {y z : Code} {t : Bool} (ht : t = true → J c (.code y :: k) st Γ) (hf : t = false → J c (.code z :: k) st Γ) (hv : ev st x = some (.bool t) := by rfl) : J c (.code (.cond x y z) :: k) st Γ := J_cond hv ht hf

/-! ### operations that read -/
theorem ro {o : Oper} {v : Value} (h : JR c ops l k (stput o.dst v st) Γ) (hv : RO c st Γ o v) (hg : gOk ops st o = some true) (hd : dOk o.dst c.n = true) : JR c ops (⟨o, fl, []⟩ :: l) k st Γ := by
  cases fl
  · exact JR_rv hg hd hv (JS_nil h)
  · exact JR_ro hg hd hv h
theorem sk {o : Oper} (h : JR c ops l k (stput o.dst undef st) Γ) (hg : gOk ops st o = some false := by rfl) (hd : dOk o.dst c.n = true := by rfl) : JR c ops (⟨o, fl, rs⟩ :: l) k st Γ := JR_skip hg hd h
theorem mv {x : Operand} {v : Value} (h : JR c ops l k (stput d v st) Γ) (hv : ev st x = some v := by rfl) (hg : gOk ops st ⟨d, .move x, ty, pos, af, g⟩ = some true := by rfl) (hd : dOk d c.n = true := by rfl) : JR c ops (⟨⟨d, .move x, ty, pos, af, g⟩, fl, []⟩ :: l) k st Γ := ro h (RO_move hv) hg hd
theorem asn {x : Operand} {v : Value} (h : JS c ops rs l k (stput d v st) Γ) (hv : ev st x = some v := by rfl) (hg : gOk ops st ⟨d, .assign x, ty, pos, af, g⟩ = some true := by rfl) (hd : dOk d c.n = true := by rfl) : JR c ops (⟨⟨d, .assign x, ty, pos, af, g⟩, false, rs⟩ :: l) k st Γ := JR_rv hg hd (RO_assign hv) h
theorem af_ {x : Operand} {v : Value} (h : JR c ops l k (stput d v st) Γ) (hv : ev st x = some v := by rfl) (hg : gOk ops st ⟨d, .assign x, ty, pos, af, g⟩ = some true := by rfl) (hd : dOk d c.n = true := by rfl) : JR c ops (⟨⟨d, .assign x, ty, pos, af, g⟩, true, []⟩ :: l) k st Γ := ro h (RO_assign hv) hg hd
theorem p1 {x y z : Operand} {v : Value} (h : JR c ops l k (stput d v st) Γ) (hc : ev st x = some (.bool true) := by rfl) (hv : ev st y = some v := by rfl) (hg : gOk ops st ⟨d, .pick x y z, ty, pos, af, g⟩ = some true := by rfl) (hd : dOk d c.n = true := by rfl) : JR c ops (⟨⟨d, .pick x y z, ty, pos, af, g⟩, fl, []⟩ :: l) k st Γ := ro h (RO_pick_t hc hv) hg hd
theorem p0 {x y z : Operand} {v : Value} (h : JR c ops l k (stput d v st) Γ) (hc : ev st x = some (.bool false) := by rfl) (hv : ev st z = some v := by rfl) (hg : gOk ops st ⟨d, .pick x y z, ty, pos, af, g⟩ = some true := by rfl) (hd : dOk d c.n = true := by rfl) : JR c ops (⟨⟨d, .pick x y z, ty, pos, af, g⟩, fl, []⟩ :: l) k st Γ := ro h (RO_pick_f hc hv) hg hd
theorem nc {x : Operand} {p : Addr} (h : JR c ops l k (stput d (.pointer (some p)) st) Γ) (hv : ev st x = some (.pointer (some p)) := by rfl) (hg : gOk ops st ⟨d, .nilCheck x, ty, pos, af, g⟩ = some true := by rfl) (hd : dOk d c.n = true := by rfl) : JR c ops (⟨⟨d, .nilCheck x, ty, pos, af, g⟩, fl, []⟩ :: l) k st Γ := ro h (RO_nilCheck hv) hg hd
theorem f0 {x : Operand} {T i b off : Nat} [hf : FOff c.P T i off] (h : JR c ops l k (stput d (.pointer (some ⟨b, off, none⟩)) st) Γ) (hv : ev st x = some (.pointer (some ⟨b, 0, none⟩)) := by rfl) (hg : gOk ops st ⟨d, .fieldAddr T x i, ty, pos, af, g⟩ = some true := by rfl) (hd : dOk d c.n = true := by rfl) : JR c ops (⟨⟨d, .fieldAddr T x i, ty, pos, af, g⟩, fl, []⟩ :: l) k st Γ := ro h (RO_fieldAddr0 hv) hg hd
theorem fa {x : Operand} {T i b o off : Nat} [hf : FOff c.P T i off] (h : JR c ops l k (stput d (.pointer (some ⟨b, o + off, none⟩)) st) Γ) (hv : ev st x = some (.pointer (some ⟨b, o, none⟩)) := by rfl) (hg : gOk ops st ⟨d, .fieldAddr T x i, ty, pos, af, g⟩ = some true := by rfl) (hd : dOk d c.n = true := by rfl) : JR c ops (⟨⟨d, .fieldAddr T x i, ty, pos, af, g⟩, fl, []⟩ :: l) k st Γ := ro h (RO_fieldAddr hv) hg hd
theorem xtr {x : Operand} {i : Nat} {vs : Array Value} {v : Value} (h : JR c ops l k (stput d v st) Γ) (hv : ev st x = some (.tuple vs) := by rfl) (hi : vs[i]? = some v := by rfl) (hg : gOk ops st ⟨d, .extract x i, ty, pos, af, g⟩ = some true := by rfl) (hd : dOk d c.n = true := by rfl) : JR c ops (⟨⟨d, .extract x i, ty, pos, af, g⟩, fl, []⟩ :: l) k st Γ := ro h (RO_extract hv hi) hg hd
theorem nt {x : Operand} {T : TypeId} {b : Bool} (h : JR c ops l k (stput d (.bool (!b)) st) Γ) (hv : ev st x = some (.bool b) := by rfl) (hg : gOk ops st ⟨d, .unOp .not T x, ty, pos, af, g⟩ = some true := by rfl) (hd : dOk d c.n = true := by rfl) : JR c ops (⟨⟨d, .unOp .not T x, ty, pos, af, g⟩, fl, []⟩ :: l) k st Γ := ro h (RO_not hv) hg hd
theorem ng {x : Operand} {T : TypeId} {k' : IntKind} {n : Int} (h : JR c ops l k (stput d (.int k' (k'.wrap (0 - n))) st) Γ) (hv : ev st x = some (.int k' n) := by rfl) (hg : gOk ops st ⟨d, .unOp .neg T x, ty, pos, af, g⟩ = some true := by rfl) (hd : dOk d c.n = true := by rfl) : JR c ops (⟨⟨d, .unOp .neg T x, ty, pos, af, g⟩, fl, []⟩ :: l) k st Γ := ro h (RO_neg hv) hg hd
theorem cv {x : Operand} {S T : TypeId} {i k' j : IntKind} {n : Int} [TInt c.P S k'] [TInt c.P T i] (h : JR c ops l k (stput d (.int i (i.wrap n)) st) Γ) (hv : ev st x = some (.int j n) := by rfl) (hg : gOk ops st ⟨d, .convert S T x, ty, pos, af, g⟩ = some true := by rfl) (hd : dOk d c.n = true := by rfl) : JR c ops (⟨⟨d, .convert S T x, ty, pos, af, g⟩, fl, []⟩ :: l) k st Γ := ro h (RO_convert hv) hg hd
theorem mf {fn : Fn} {first captured : Array Operand} {fs cs : List Value} (h : JR c ops l k (stput d (.func fn ⟨fs⟩ ⟨cs⟩) st) Γ) (h1 : Evs st first.toList fs) (h2 : Evs st captured.toList cs) (hg : gOk ops st ⟨d, .makeFunc fn first captured, ty, pos, af, g⟩ = some true := by rfl) (hd : dOk d c.n = true := by rfl) : JR c ops (⟨⟨d, .makeFunc fn first captured, ty, pos, af, g⟩, fl, []⟩ :: l) k st Γ := ro h (fun a w ha _ => by
  have e1 : first.map a.eval = ⟨fs⟩ := by rw [← Array.toList_inj]; simpa using h1.map ha
  have e2 : captured.map a.eval = ⟨cs⟩ := by rw [← Array.toList_inj]; simpa using h2.map ha
  simp [execOp, Instr.makeFunc, e1, e2]) hg hd
section
variable {x y : Operand} {T U : TypeId} {i : IntKind} {m n : Int}
theorem ad (h : JR c ops l k (stput d (.int .i64 (m + n)) st) Γ) (hx : ev st x = some (.int .i64 m) := by rfl) (hy : ev st y = some (.int .i64 n) := by rfl) (hb : -9223372036854775808 ≤ m + n ∧ m + n ≤ 9223372036854775807 := by omega) (hg : gOk ops st ⟨d, .binOp .add T x y U, ty, pos, af, g⟩ = some true := by rfl) (hd : dOk d c.n = true := by rfl) : JR c ops (⟨⟨d, .binOp .add T x y U, ty, pos, af, g⟩, fl, []⟩ :: l) k st Γ := ro h (RO_add_in hx hy hb) hg hd
theorem aw (h : JR c ops l k (stput d (.int i (i.wrap (m + n))) st) Γ) (hx : ev st x = some (.int i m) := by rfl) (hy : ev st y = some (.int i n) := by rfl) (hg : gOk ops st ⟨d, .binOp .add T x y U, ty, pos, af, g⟩ = some true := by rfl) (hd : dOk d c.n = true := by rfl) : JR c ops (⟨⟨d, .binOp .add T x y U, ty, pos, af, g⟩, fl, []⟩ :: l) k st Γ := ro h (RO_add hx hy) hg hd
theorem sb (h : JR c ops l k (stput d (.int .i64 (m - n)) st) Γ) (hx : ev st x = some (.int .i64 m) := by rfl) (hy : ev st y = some (.int .i64 n) := by rfl) (hb : -9223372036854775808 ≤ m - n ∧ m - n ≤ 9223372036854775807 := by omega) (hg : gOk ops st ⟨d, .binOp .sub T x y U, ty, pos, af, g⟩ = some true := by rfl) (hd : dOk d c.n = true := by rfl) : JR c ops (⟨⟨d, .binOp .sub T x y U, ty, pos, af, g⟩, fl, []⟩ :: l) k st Γ := ro h (RO_sub_in hx hy hb) hg hd
theorem sw (h : JR c ops l k (stput d (.int i (i.wrap (m - n))) st) Γ) (hx : ev st x = some (.int i m) := by rfl) (hy : ev st y = some (.int i n) := by rfl) (hg : gOk ops st ⟨d, .binOp .sub T x y U, ty, pos, af, g⟩ = some true := by rfl) (hd : dOk d c.n = true := by rfl) : JR c ops (⟨⟨d, .binOp .sub T x y U, ty, pos, af, g⟩, fl, []⟩ :: l) k st Γ := ro h (RO_sub hx hy) hg hd
theorem ml (h : JR c ops l k (stput d (.int .i64 (m * n)) st) Γ) (hx : ev st x = some (.int .i64 m) := by rfl) (hy : ev st y = some (.int .i64 n) := by rfl) (hb : -9223372036854775808 ≤ m * n ∧ m * n ≤ 9223372036854775807 := by omega) (hg : gOk ops st ⟨d, .binOp .mul T x y U, ty, pos, af, g⟩ = some true := by rfl) (hd : dOk d c.n = true := by rfl) : JR c ops (⟨⟨d, .binOp .mul T x y U, ty, pos, af, g⟩, fl, []⟩ :: l) k st Γ := ro h (RO_mul_in hx hy hb) hg hd
theorem mw (h : JR c ops l k (stput d (.int i (i.wrap (m * n))) st) Γ) (hx : ev st x = some (.int i m) := by rfl) (hy : ev st y = some (.int i n) := by rfl) (hg : gOk ops st ⟨d, .binOp .mul T x y U, ty, pos, af, g⟩ = some true := by rfl) (hd : dOk d c.n = true := by rfl) : JR c ops (⟨⟨d, .binOp .mul T x y U, ty, pos, af, g⟩, fl, []⟩ :: l) k st Γ := ro h (RO_mul hx hy) hg hd
theorem lss (h : JR c ops l k (stput d (.bool (decide (m < n))) st) Γ) (hx : ev st x = some (.int i m) := by rfl) (hy : ev st y = some (.int i n) := by rfl) (hg : gOk ops st ⟨d, .binOp .lss T x y U, ty, pos, af, g⟩ = some true := by rfl) (hd : dOk d c.n = true := by rfl) : JR c ops (⟨⟨d, .binOp .lss T x y U, ty, pos, af, g⟩, fl, []⟩ :: l) k st Γ := ro h (RO_lss hx hy) hg hd
theorem leq (h : JR c ops l k (stput d (.bool (decide (m ≤ n))) st) Γ) (hx : ev st x = some (.int i m) := by rfl) (hy : ev st y = some (.int i n) := by rfl) (hg : gOk ops st ⟨d, .binOp .leq T x y U, ty, pos, af, g⟩ = some true := by rfl) (hd : dOk d c.n = true := by rfl) : JR c ops (⟨⟨d, .binOp .leq T x y U, ty, pos, af, g⟩, fl, []⟩ :: l) k st Γ := ro h (RO_leq hx hy) hg hd
theorem gtr (h : JR c ops l k (stput d (.bool (decide (n < m))) st) Γ) (hx : ev st x = some (.int i m) := by rfl) (hy : ev st y = some (.int i n) := by rfl) (hg : gOk ops st ⟨d, .binOp .gtr T x y U, ty, pos, af, g⟩ = some true := by rfl) (hd : dOk d c.n = true := by rfl) : JR c ops (⟨⟨d, .binOp .gtr T x y U, ty, pos, af, g⟩, fl, []⟩ :: l) k st Γ := ro h (RO_gtr hx hy) hg hd
theorem geq (h : JR c ops l k (stput d (.bool (decide (n ≤ m))) st) Γ) (hx : ev st x = some (.int i m) := by rfl) (hy : ev st y = some (.int i n) := by rfl) (hg : gOk ops st ⟨d, .binOp .geq T x y U, ty, pos, af, g⟩ = some true := by rfl) (hd : dOk d c.n = true := by rfl) : JR c ops (⟨⟨d, .binOp .geq T x y U, ty, pos, af, g⟩, fl, []⟩ :: l) k st Γ := ro h (RO_geq hx hy) hg hd
theorem eql (h : JR c ops l k (stput d (.bool (decide (m = n))) st) Γ) (hx : ev st x = some (.int i m) := by rfl) (hy : ev st y = some (.int i n) := by rfl) (hg : gOk ops st ⟨d, .binOp .eql T x y U, ty, pos, af, g⟩ = some true := by rfl) (hd : dOk d c.n = true := by rfl) : JR c ops (⟨⟨d, .binOp .eql T x y U, ty, pos, af, g⟩, fl, []⟩ :: l) k st Γ := ro h (RO_eql hx hy) hg hd
theorem neq (h : JR c ops l k (stput d (.bool (!decide (m = n))) st) Γ) (hx : ev st x = some (.int i m) := by rfl) (hy : ev st y = some (.int i n) := by rfl) (hg : gOk ops st ⟨d, .binOp .neq T x y U, ty, pos, af, g⟩ = some true := by rfl) (hd : dOk d c.n = true := by rfl) : JR c ops (⟨⟨d, .binOp .neq T x y U, ty, pos, af, g⟩, fl, []⟩ :: l) k st Γ := ro h (RO_neq hx hy) hg hd
theorem mx {ats : Array TypeId} (h : JR c ops l k (stput d (.int i (max m n)) st) Γ) (hx : ev st x = some (.int i m) := by rfl) (hy : ev st y = some (.int i n) := by rfl) (hg : gOk ops st ⟨d, .call ⟨.builtin .max, #[x, y], ats⟩, ty, pos, af, g⟩ = some true := by rfl) (hd : dOk d c.n = true := by rfl) : JR c ops (⟨⟨d, .call ⟨.builtin .max, #[x, y], ats⟩, ty, pos, af, g⟩, fl, []⟩ :: l) k st Γ := ro h (RO_max hx hy) hg hd
theorem mn {ats : Array TypeId} (h : JR c ops l k (stput d (.int i (min m n)) st) Γ) (hx : ev st x = some (.int i m) := by rfl) (hy : ev st y = some (.int i n) := by rfl) (hg : gOk ops st ⟨d, .call ⟨.builtin .min, #[x, y], ats⟩, ty, pos, af, g⟩ = some true := by rfl) (hd : dOk d c.n = true := by rfl) : JR c ops (⟨⟨d, .call ⟨.builtin .min, #[x, y], ats⟩, ty, pos, af, g⟩, fl, []⟩ :: l) k st Γ := ro h (RO_min hx hy) hg hd
theorem ls {s : ByteArray} [TStr c.P T] (h : JR c ops l k (stput d (.int .i64 s.size) st) Γ) (hv : ev st x = some (.string s) := by rfl) (hg : gOk ops st ⟨d, .call ⟨.builtin .len, #[x], #[T]⟩, ty, pos, af, g⟩ = some true := by rfl) (hd : dOk d c.n = true := by rfl) : JR c ops (⟨⟨d, .call ⟨.builtin .len, #[x], #[T]⟩, ty, pos, af, g⟩, fl, []⟩ :: l) k st Γ := ro h (RO_len_str hv) hg hd
theorem ll {E : TypeId} {p : Option Addr} {n m : Nat} [TSlice c.P T E] (h : JR c ops l k (stput d (.int .i64 n) st) Γ) (hv : ev st x = some (.slice p n m) := by rfl) (hg : gOk ops st ⟨d, .call ⟨.builtin .len, #[x], #[T]⟩, ty, pos, af, g⟩ = some true := by rfl) (hd : dOk d c.n = true := by rfl) : JR c ops (⟨⟨d, .call ⟨.builtin .len, #[x], #[T]⟩, ty, pos, af, g⟩, fl, []⟩ :: l) k st Γ := ro h (RO_len_slice hv) hg hd
theorem ld {b o : Nat} {cl : List Value} {E : TypeId} {fz : Nat × Nat} {v : Value} [TSc c.P T] [InG Γ b (.cells ⟨cl⟩ E fz)] (hv : ev st x = some (.pointer (some ⟨b, o, none⟩))) (h : JR c ops l k (stput d v st) Γ) (hl : cl[o]? = some v := by rfl) (hg : gOk ops st ⟨d, .load T x, ty, pos, af, g⟩ = some true := by rfl) (hd : dOk d c.n = true := by rfl) : JR c ops (⟨⟨d, .load T x, ty, pos, af, g⟩, fl, []⟩ :: l) k st Γ := ro h (RO_load hv hl) hg hd
theorem la {b o n : Nat} {cl vs : List Value} {E : TypeId} {fz : Nat × Nat} [TAgg c.P T n] [InG Γ b (.cells ⟨cl⟩ E fz)] (hv : ev st x = some (.pointer (some ⟨b, o, none⟩))) (h : JR c ops l k (stput d (.agg ⟨vs⟩) st) Γ) (hl : GetN cl o n vs := by (repeat constructor)) (hg : gOk ops st ⟨d, .load T x, ty, pos, af, g⟩ = some true := by rfl) (hd : dOk d c.n = true := by rfl) : JR c ops (⟨⟨d, .load T x, ty, pos, af, g⟩, fl, []⟩ :: l) k st Γ := ro h (RO_loadAgg hv hl) hg hd
theorem bx {v : Value} {cl : List Value} (h : ∀ b, JS c ops rs l k (stput d (.pointer (some ⟨b, 0, none⟩)) st) (blk b (.cells ⟨cl⟩ T (0, 0)) :: Γ)) (hv : ev st x = some v := by rfl) (hc : v.cells = ⟨cl⟩ := by rfl) (hg : gOk ops st ⟨d, .box T x, ty, pos, af, g⟩ = some true := by rfl) (hd : dOk d c.n = true := by rfl) : JR c ops (⟨⟨d, .box T x, ty, pos, af, g⟩, false, rs⟩ :: l) k st Γ := JR_box hg hd hv (by rw [hc]; exact h)
theorem al {z : Value} {cl : List Value} [TZero c.P T z] (h : ∀ b, JS c ops rs l k (stput d (.pointer (some ⟨b, 0, none⟩)) st) (blk b (.cells ⟨cl⟩ T (0, 0)) :: Γ)) (hc : z.cells = ⟨cl⟩ := by rfl) (hg : gOk ops st ⟨d, .alloc T, ty, pos, af, g⟩ = some true := by rfl) (hd : dOk d c.n = true := by rfl) : JR c ops (⟨⟨d, .alloc T, ty, pos, af, g⟩, false, rs⟩ :: l) k st Γ := JR_alloc hg hd (by rw [hc]; exact h)
theorem sr {b o n bb : Nat} {cl cl' vs : List Value} {E : TypeId} {Γ' : List Assn} {v : Value} [SelG Γ b (.cells ⟨cl⟩ E (0, 0)) Γ'] [hz : ESize c.P T n bb] (hx : ev st x = some (.pointer (some ⟨b, o, none⟩))) (h : JS c ops rs l k (stput d undef st) (blk b (.cells ⟨cl'⟩ E (0, 0)) :: Γ')) (hy : ev st y = some v := by rfl)
    (hvs : v.cells = ⟨vs⟩ := by rfl) (hn : vs.length = n := by rfl) (hone : vs.all one = true := by rfl) (hp : PutN cl o vs cl' := by (repeat constructor)) (hg : gOk ops st ⟨d, .store T x y, ty, pos, af, g⟩ = some true := by rfl) (hd : dOk d c.n = true := by rfl) : JR c ops (⟨⟨d, .store T x y, ty, pos, af, g⟩, false, rs⟩ :: l) k st Γ :=
  JR_store hg hd hx hy (szOf_of hz.h) hvs hn hone hp h
end
/-- A guard that is not known: by cases. -/
theorem gs {o : Oper} {j d : Nat} {want t : Bool} (ht : t = true → JR c ops (⟨o, fl, rs⟩ :: l) k ((d, .bool true) :: st) Γ) (hf : t = false → JR c ops (⟨o, fl, rs⟩ :: l) k ((d, .bool false) :: st) Γ)
    (hg : o.guard = some (j, want) := by rfl) (hd : (ops[j]?).bind (·.dst) = some d := by rfl) (hv : look st d = some (.bool t) := by rfl) : JR c ops (⟨o, fl, rs⟩ :: l) k st Γ := by
  intro b cs a w h1 h2 h3 h4
  have key : ∀ u, look st d = some (.bool u) → Agree c.n ((d, .bool u) :: st) a := fun u hu => ⟨h3.1, h3.2.1, fun x v hx => by
    unfold look at hx
    cases e : Nat.beq d x with
    | true => rw [e] at hx; cases hx; rw [← Nat.eq_of_beq_eq_true e]; exact h3.2.2 d _ hu
    | false => rw [e] at hx; exact h3.2.2 x v hx⟩
  cases t
  · exact hf rfl b cs a w h1 h2 (key false hv) h4
  · exact ht rfl b cs a w h1 h2 (key true hv) h4
theorem gd {o : Oper} {j d : Nat} {want : Bool} {p : Prop} {_ : Decidable p} (ht : p → JR c ops (⟨o, fl, rs⟩ :: l) k ((d, .bool true) :: st) Γ) (hf : ¬ p → JR c ops (⟨o, fl, rs⟩ :: l) k ((d, .bool false) :: st) Γ)
    (hg : o.guard = some (j, want) := by rfl) (hd : (ops[j]?).bind (·.dst) = some d := by rfl) (hv : look st d = some (.bool (decide p)) := by rfl) : JR c ops (⟨o, fl, rs⟩ :: l) k st Γ :=
  gs (fun h => ht (of_decide_eq_true h)) (fun h => hf (of_decide_eq_false h)) hg hd hv
theorem gn {o : Oper} {j d : Nat} {want : Bool} {p : Prop} {_ : Decidable p} (ht : ¬ p → JR c ops (⟨o, fl, rs⟩ :: l) k ((d, .bool true) :: st) Γ) (hf : p → JR c ops (⟨o, fl, rs⟩ :: l) k ((d, .bool false) :: st) Γ)
    (hg : o.guard = some (j, want) := by rfl) (hd : (ops[j]?).bind (·.dst) = some d := by rfl) (hv : look st d = some (.bool (!decide p)) := by rfl) : JR c ops (⟨o, fl, rs⟩ :: l) k st Γ :=
  gs (fun h => ht (of_decide_eq_false (by simpa using h))) (fun h => hf (of_decide_eq_true (by simpa using h))) hg hd hv
end
end Go.Proofs.YtaeefjcbmkiiaaaGreatDoor.Sl
/- Strings, as lists of bytes; equality of flat structs. -/
namespace Go.Proofs.YtaeefjcbmkiiaaaGreatDoor.Sl
open Go Go.RowKit

/-- A string of a list of bytes. -/
abbrev bs (l : List UInt8) : ByteArray := ByteArray.mk l.toArray
abbrev vs (l : List UInt8) : Value := .string (bs l)
theorem bs_eta (s : ByteArray) : bs s.data.toList = s := by
  obtain ⟨⟨l⟩⟩ := s; rfl
theorem bs_size (l : List UInt8) : (bs l).size = l.length := by simp [ByteArray.size]
theorem bs_inj {a b : List UInt8} : bs a = bs b ↔ a = b := by
  constructor
  · intro h
    have := congrArg (fun s : ByteArray => s.data.toList) h
    simpa using this
  · rintro rfl; rfl
theorem bs_append (a b : List UInt8) : bs a ++ bs b = bs (a ++ b) := by
  show ByteArray.append _ _ = _
  apply ByteArray.ext
  simp
theorem bs_extract (a : List UInt8) (i j : Nat) : (bs a).extract i j = bs ((a.take j).drop i) := by
  apply ByteArray.ext
  simp [ByteArray.data_extract, List.drop_take]

section
variable {c : Ctx} {k : List Item} {st : St} {Γ : List Assn} {d : Option Tmp} {ty : TypeId} {pos : String} {af : Array Edge} {g : Option (Nat × Bool)} {ops : Array Oper} {rs : List Oper} {l : List Stp} {fl : Bool}
variable {x y : Operand} {T U : TypeId} {a b : List UInt8}

theorem run_eqGuard_str {P : Program} {op : BinOp} {T : TypeId} {x y : Operand} {s t : ByteArray} {w : World} : (eqGuard op T x y (.string s) (.string t)).run P w = .ok () w := by
  unfold eqGuard; split <;> rfl
theorem RO_str {op : BinOp} {v : Value} (hx : ev st x = some (vs a)) (hy : ev st y = some (vs b)) (h : ∀ w, (binOp op T (vs a) (vs b)).run c.P w = .ok v w) :
    RO c st Γ ⟨d, .binOp op T x y U, ty, pos, af, g⟩ v := fun ac w ha _ => by
  simp [execOp, ev_eval ha hx, ev_eval ha hy, run_eqGuard_str, h]
theorem cc (h : JR c ops l k (stput d (vs (a ++ b)) st) Γ) (hx : ev st x = some (vs a) := by rfl) (hy : ev st y = some (vs b) := by rfl) (hb : a.length + b.length ≤ 9223372036854775807 := by omega)
    (hg : gOk ops st ⟨d, .binOp .add T x y U, ty, pos, af, g⟩ = some true := by rfl) (hd : dOk d c.n = true := by rfl) : JR c ops (⟨⟨d, .binOp .add T x y U, ty, pos, af, g⟩, fl, []⟩ :: l) k st Γ :=
  ro h (RO_str hx hy fun w => by
    simp only [binOp, Op.stringOp, bs_size, bs_append]
    have hmax : IntKind.i64.max = 9223372036854775807 := by decide
    rw [if_neg (by rw [hmax]; omega)]
    rfl) hg hd
theorem seq (h : JR c ops l k (stput d (.bool (decide (a = b))) st) Γ) (hx : ev st x = some (vs a) := by rfl) (hy : ev st y = some (vs b) := by rfl) (hg : gOk ops st ⟨d, .binOp .eql T x y U, ty, pos, af, g⟩ = some true := by rfl) (hd : dOk d c.n = true := by rfl) : JR c ops (⟨⟨d, .binOp .eql T x y U, ty, pos, af, g⟩, fl, []⟩ :: l) k st Γ :=
  ro h (RO_str hx hy fun w => by
    simp only [binOp, Op.stringOp, ByteArray.toList_mk, Sem.run_pure]
    have e : (a == b) = decide (a = b) := by by_cases h : a = b <;> simp [h]
    rw [e]) hg hd
theorem sne (h : JR c ops l k (stput d (.bool (!decide (a = b))) st) Γ) (hx : ev st x = some (vs a) := by rfl) (hy : ev st y = some (vs b) := by rfl) (hg : gOk ops st ⟨d, .binOp .neq T x y U, ty, pos, af, g⟩ = some true := by rfl) (hd : dOk d c.n = true := by rfl) : JR c ops (⟨⟨d, .binOp .neq T x y U, ty, pos, af, g⟩, fl, []⟩ :: l) k st Γ :=
  ro h (RO_str hx hy fun w => by
    simp only [binOp, Op.stringOp, ByteArray.toList_mk, Sem.run_pure]
    have e : (a == b) = decide (a = b) := by by_cases h : a = b <;> simp [h]
    rw [e]) hg hd
theorem slt (h : JR c ops l k (stput d (.bool (Op.bytesLess a b)) st) Γ) (hx : ev st x = some (vs a) := by rfl) (hy : ev st y = some (vs b) := by rfl) (hg : gOk ops st ⟨d, .binOp .lss T x y U, ty, pos, af, g⟩ = some true := by rfl) (hd : dOk d c.n = true := by rfl) : JR c ops (⟨⟨d, .binOp .lss T x y U, ty, pos, af, g⟩, fl, []⟩ :: l) k st Γ :=
  ro h (RO_str hx hy fun w => by simp only [binOp, Op.stringOp, ByteArray.toList_mk, Sem.run_pure]) hg hd
/-- The length, of a list of bytes. -/
theorem lnb [TStr c.P T] (h : JR c ops l k (stput d (.int .i64 a.length) st) Γ) (hv : ev st x = some (vs a) := by rfl) (hg : gOk ops st ⟨d, .call ⟨.builtin .len, #[x], #[T]⟩, ty, pos, af, g⟩ = some true := by rfl) (hd : dOk d c.n = true := by rfl) : JR c ops (⟨⟨d, .call ⟨.builtin .len, #[x], #[T]⟩, ty, pos, af, g⟩, fl, []⟩ :: l) k st Γ := by
  refine ls ?_ hv hg hd
  rw [bs_size]; exact h
/-- A byte: at i from 0 on, below the length. -/
theorem ixb [ht : TStr c.P T] {i : IntKind} {n : Int} (h : JR c ops l k (stput d (.int .u8 (a.getD n.toNat 0).toNat) st) Γ) (hx : ev st x = some (vs a) := by rfl) (hy : ev st y = some (.int i n) := by rfl) (hb : 0 ≤ n ∧ n < a.length := by omega)
    (hg : gOk ops st ⟨d, .index T x y, ty, pos, af, g⟩ = some true := by rfl) (hd : dOk d c.n = true := by rfl) : JR c ops (⟨⟨d, .index T x y, ty, pos, af, g⟩, fl, []⟩ :: l) k st Γ :=
  ro h (fun ac w ha _ => by
    have hlt : n.toNat < a.length := by omega
    have := run_index_string (P := c.P) w T (bs a) i n ht.h
    rw [dif_pos ⟨hb.1, by rw [bs_size]; exact hb.2⟩] at this
    simp only [execOp, ev_eval ha hx, ev_eval ha hy, Sem.run_bind, this, Result.andThen_ok]
    have e : (bs a)[n.toNat]'(by rw [bs_size]; exact hlt) = a.getD n.toNat 0 := by
      rw [List.getD_eq_getElem?_getD, List.getElem?_eq_getElem hlt]; rfl
    rw [e]; rfl) hg hd

theorem run_sliceB {P : Program} {j : IntKind} {i : Int} {y : Nat} {code : BoundsCode} {w : World} (h : 0 ≤ i ∧ i ≤ y) : (Instr.sliceBound (.int j i) y code).run P w = .ok i.toNat w := by
  simp [Instr.sliceBound, asIntOf, h]
/-- s[i:j], s[i:], s[:j]. -/
theorem slb [ht : TStr c.P T] {lo hi : Operand} {i j : IntKind} {m n : Int} (h : JR c ops l k (stput d (vs ((a.take n.toNat).drop m.toNat)) st) Γ) (hx : ev st x = some (vs a) := by rfl) (hl : ev st lo = some (.int i m) := by rfl) (hh : ev st hi = some (.int j n) := by rfl) (hb : 0 ≤ m ∧ m ≤ n ∧ n ≤ a.length := by omega)
    (hg : gOk ops st ⟨d, .slice T x (some lo) (some hi) none, ty, pos, af, g⟩ = some true := by rfl) (hd : dOk d c.n = true := by rfl) : JR c ops (⟨⟨d, .slice T x (some lo) (some hi) none, ty, pos, af, g⟩, fl, []⟩ :: l) k st Γ :=
  ro h (fun ac w ha _ => by
    simp only [execOp, ev_eval ha hx, ev_eval ha hl, ev_eval ha hh, Option.map_some, Option.map_none, Instr.sliceAt, Instr.slice, Sem.run_bind, run_underlying ht.h, Result.andThen_ok, Instr.sliceBounds, bs_size]
    simp only [Sem.run_pure, Option.isSome, Bool.false_eq_true, if_false]
    simp [run_sliceB (P := c.P) (w := w) (j := j) (code := .sliceAlen) (y := a.length) ⟨by omega, hb.2.2⟩, run_sliceB (P := c.P) (w := w) (j := i) (code := .sliceB) (y := n.toNat) (i := m) ⟨hb.1, by omega⟩, bs_extract]) hg hd
theorem slbl [ht : TStr c.P T] {lo : Operand} {i : IntKind} {m : Int} (h : JR c ops l k (stput d (vs (a.drop m.toNat)) st) Γ) (hx : ev st x = some (vs a) := by rfl) (hl : ev st lo = some (.int i m) := by rfl) (hb : 0 ≤ m ∧ m ≤ a.length := by omega)
    (hg : gOk ops st ⟨d, .slice T x (some lo) none none, ty, pos, af, g⟩ = some true := by rfl) (hd : dOk d c.n = true := by rfl) : JR c ops (⟨⟨d, .slice T x (some lo) none none, ty, pos, af, g⟩, fl, []⟩ :: l) k st Γ :=
  ro h (fun ac w ha _ => by
    simp only [execOp, ev_eval ha hx, ev_eval ha hl, Option.map_some, Option.map_none, Instr.sliceAt, Instr.slice, Sem.run_bind, run_underlying ht.h, Result.andThen_ok, Instr.sliceBounds, bs_size]
    simp [run_sliceB (P := c.P) (w := w) (j := i) (code := .sliceB) (y := a.length) (i := m) ⟨hb.1, by omega⟩, bs_extract]) hg hd
theorem slbh [ht : TStr c.P T] {hi : Operand} {j : IntKind} {n : Int} (h : JR c ops l k (stput d (vs (a.take n.toNat)) st) Γ) (hx : ev st x = some (vs a) := by rfl) (hh : ev st hi = some (.int j n) := by rfl) (hb : 0 ≤ n ∧ n ≤ a.length := by omega)
    (hg : gOk ops st ⟨d, .slice T x none (some hi) none, ty, pos, af, g⟩ = some true := by rfl) (hd : dOk d c.n = true := by rfl) : JR c ops (⟨⟨d, .slice T x none (some hi) none, ty, pos, af, g⟩, fl, []⟩ :: l) k st Γ :=
  ro h (fun ac w ha _ => by
    simp only [execOp, ev_eval ha hx, ev_eval ha hh, Option.map_some, Option.map_none, Instr.sliceAt, Instr.slice, Sem.run_bind, run_underlying ht.h, Result.andThen_ok, Instr.sliceBounds, bs_size]
    simp [run_sliceB (P := c.P) (w := w) (j := j) (code := .sliceAlen) (y := a.length) (i := n) ⟨hb.1, by omega⟩, bs_extract]) hg hd

/-! ### structs of numbers, bools and strings, held against each other -/
def eqCell : Value → Value → Bool
  | .int _ a, .int _ b => a == b
  | .bool a, .bool b => a == b
  | .string a, .string b => a.data.toList == b.data.toList
  | _, _ => false
def eqCells : List Value → List Value → Bool
  | x :: xs, y :: ys => eqCell x y && eqCells xs ys
  | _, _ => true
def kindV (P : Program) (T : TypeId) (x y : Value) : Bool := match P.underlying T, x, y with
  | some (.int _), .int k _, .int k' _ => k == k'
  | some .bool, .bool _, .bool _ => true
  | some .string, .string _, .string _ => true
  | _, _, _ => false
end
def kindsFit (P : Program) : List Field → List Value → List Value → Bool
  | f :: fs, x :: xs, y :: ys => kindV P f.type x y && kindsFit P fs xs ys
  | [], _, _ => true
  | _, _, _ => false
section
variable {c : Ctx} {k : List Item} {st : St} {Γ : List Assn} {d : Option Tmp} {ty : TypeId} {pos : String} {af : Array Edge} {g : Option (Nat × Bool)} {ops : Array Oper} {rs : List Oper} {l : List Stp} {fl : Bool}
variable {x y : Operand} {T U : TypeId}
theorem run_eqFlat {P : Program} {n : Nat} (w : World) : ∀ (fs : List Field) (i : Nat) (xs ys : List Value), flatFields P i fs = true → kindsFit P fs (xs.drop i) (ys.drop i) = true → fs.length = xs.length - i → i ≤ xs.length → xs.length = ys.length →
    (Op.eqFields (n + 1) ⟨xs⟩ ⟨ys⟩ fs).run P w = .ok (eqCells (xs.drop i) (ys.drop i)) w
  | [], i, xs, ys, _, _, hl, hi, hxy => by
    have : xs.drop i = [] := List.drop_eq_nil_of_le (by simp at hl; omega)
    simp [Op.eqFields, this, eqCells]
  | f :: fs, i, xs, ys, hf, hk, hl, hi, hxy => by
    simp only [flatFields, Bool.and_eq_true, bne_iff_ne, beq_iff_eq] at hf
    obtain ⟨⟨⟨h1, h2⟩, h3⟩, h4⟩ := hf
    have hx : i < xs.length := by simp at hl; omega
    have hy : i < ys.length := by omega
    rw [List.drop_eq_getElem_cons hx, List.drop_eq_getElem_cons hy] at hk ⊢
    simp only [kindsFit, Bool.and_eq_true] at hk
    obtain ⟨h5, h6⟩ := hk
    have ha : aggOf P f.type = some false := by
      unfold scalarB at h3
      unfold aggOf
      split at h3 <;> simp_all
    have p1 : ∀ (zs : List Value) (hz : i < zs.length) (w : World), (part f.type ⟨zs⟩ f.offset).run P w = .ok zs[i] w := fun zs hz w => by
      simp [part, run_isAgg ha, h2, hz]
    have he : ∀ w, (Op.equalIn (n + 1) f.type xs[i] ys[i]).run P w = .ok (eqCell xs[i] ys[i]) w := fun w => by
      unfold kindV at h5
      split at h5
      · rename_i k a k' b hu hxi hyi
        simp at h5; subst h5
        rw [hxi, hyi, run_equalIn_int _ _ _ _ _ _ _ hu]; rfl
      · rename_i hu hxi hyi
        rw [hxi, hyi, run_equalIn_bool' _ _ _ _ _ hu]; rfl
      · rename_i hu hxi hyi
        rw [hxi, hyi, run_equalIn_string _ _ _ _ _ hu, ByteArray.toList_eq, ByteArray.toList_eq]; rfl
      · cases h5
    have hlen : fs.length = xs.length - (i + 1) := by simp at hl; omega
    have ih := run_eqFlat (P := P) (n := n) w fs (i + 1) xs ys h4 h6 hlen (by omega) hxy
    simp only [Op.eqFields, h1, ne_eq, not_false_eq_true, if_true, Sem.run_bind, p1 xs hx, p1 ys hy, Result.andThen_ok, he]
    cases hb : eqCell xs[i] ys[i] with
    | false => simp [eqCells, hb]
    | true => simp [eqCells, hb]; exact ih
theorem run_eqStruct {P : Program} [hT : TFlat P T] {xs ys : List Value} (hk : kindsFit P (P.fieldsOf T).toList xs ys = true) (hx : xs.length = (P.fieldsOf T).toList.length) (hy : ys.length = (P.fieldsOf T).toList.length) (w : World) :
    (Op.equalIn 10000 T (.agg ⟨xs⟩) (.agg ⟨ys⟩)).run P w = .ok (eqCells xs ys) w := by
  rw [run_equalIn_struct w 9999 T _ _ hT.u hT.s]
  have := run_eqFlat (P := P) (n := 9998) w (P.fieldsOf T).toList 0 xs ys hT.f (by simpa using hk) (by omega) (by omega) (by omega)
  simpa using this
theorem kinds_of {P : Program} : ∀ (fs : List Field) (ks : List FK) (xs ys : List Value), fs.map (fun f => fkOf P f.type) = ks.map some → fitK ks xs ys = true → kindsFit P fs xs ys = true
  | [], _, _, _, _, _ => rfl
  | f :: fs, [], _, _, h, _ => by simp at h
  | f :: fs, q :: ks, xs, ys, h, hk => by
    simp only [List.map_cons, List.cons.injEq] at h
    obtain ⟨h1, h2⟩ := h
    cases xs with
    | nil => cases q <;> simp [fitK] at hk
    | cons x xs =>
      cases ys with
      | nil => cases q <;> cases x <;> simp [fitK] at hk
      | cons y ys =>
        have hr : kindV P f.type x y = true ∧ fitK ks xs ys = true := by
          unfold fkOf at h1
          unfold kindV
          cases q <;> cases x <;> first
            | (exfalso; simp [fitK] at hk; done)
            | (cases y <;> first
                | (exfalso; simp [fitK] at hk; done)
                | (simp only [fitK] at hk; split at h1 <;> simp_all))
        simp only [kindsFit, Bool.and_eq_true]
        exact ⟨hr.1, kinds_of fs ks xs ys h2 hr.2⟩
theorem aeq {xs ys : List Value} {ks : List FK} [hT : TFlatK c.P T ks] (h : JR c ops l k (stput d (.bool (eqCells xs ys)) st) Γ) (hx : ev st x = some (.agg ⟨xs⟩) := by rfl) (hy : ev st y = some (.agg ⟨ys⟩) := by rfl) (hk : fitK ks xs ys = true := by rfl) (h1 : xs.length = ks.length := by rfl) (h2 : ys.length = ks.length := by rfl)
    (hg : gOk ops st ⟨d, .binOp .eql T x y U, ty, pos, af, g⟩ = some true := by rfl) (hd : dOk d c.n = true := by rfl) : JR c ops (⟨⟨d, .binOp .eql T x y U, ty, pos, af, g⟩, fl, []⟩ :: l) k st Γ :=
  ro h (fun ac w ha _ => by
    simp only [execOp, ev_eval ha hx, ev_eval ha hy, Sem.run_bind, run_eqGuard_agg w .eql T x y _ _ hT.g, Result.andThen_ok, run_eql_struct, run_eqStruct (P := c.P) (xs := xs) (ys := ys) (kinds_of _ _ _ _ hT.k hk) (by rw [h1, hT.len]) (by rw [h2, hT.len])]
    rfl) hg hd
theorem ane {xs ys : List Value} {ks : List FK} [hT : TFlatK c.P T ks] (h : JR c ops l k (stput d (.bool (!eqCells xs ys)) st) Γ) (hx : ev st x = some (.agg ⟨xs⟩) := by rfl) (hy : ev st y = some (.agg ⟨ys⟩) := by rfl) (hk : fitK ks xs ys = true := by rfl) (h1 : xs.length = ks.length := by rfl) (h2 : ys.length = ks.length := by rfl)
    (hg : gOk ops st ⟨d, .binOp .neq T x y U, ty, pos, af, g⟩ = some true := by rfl) (hd : dOk d c.n = true := by rfl) : JR c ops (⟨⟨d, .binOp .neq T x y U, ty, pos, af, g⟩, fl, []⟩ :: l) k st Γ :=
  ro h (fun ac w ha _ => by
    simp only [execOp, ev_eval ha hx, ev_eval ha hy, Sem.run_bind, run_eqGuard_agg w .neq T x y _ _ hT.g, Result.andThen_ok, run_neq_struct, run_eqStruct (P := c.P) (xs := xs) (ys := ys) (kinds_of _ _ _ _ hT.k hk) (by rw [h1, hT.len]) (by rw [h2, hT.len])]
    rfl) hg hd
end
end Go.Proofs.YtaeefjcbmkiiaaaGreatDoor.Sl
