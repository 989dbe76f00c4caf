/- A region whose order is open, carried out in one order: the machine's answer is that order's, where what floats is read-only and stays readable. -/
import Derived.Test.YtaeefjcbmkiiaaaGreatDoorSl0
import Derived.Orders
namespace Go.Proofs.YtaeefjcbmkiiaaaGreatDoor.Sl
open Go Go.RowKit

/-- One operation of a plan: is it carried out ahead of its turn (it changes nothing but its temporary)? which of those that were carried out ahead must be readable still behind it? -/
structure Stp where
  o : Oper
  fl : Bool
  rs : List Oper

def Stp.plain (o : Oper) : Stp := ⟨o, false, []⟩

def QG (G : Act → World → Prop) : Exit → Act → World → Prop
  | .normal, a, w => G a w
  | _, _, _ => False

def Stable (P : Program) (ops : Array Oper) (r : Oper) (a : Act) (w : World) : Prop :=
  Region.wanted r (yielded ops a.tmps) = true → ∀ d, r.dst = some d → (execOp a.eval r).run P w = .ok (.value (a.tmps.getD d undef)) w

/-- The operations of a plan, one behind the other. -/
def CR (P : Program) (ops : Array Oper) (G : Act → World → Prop) : List Stp → Act → World → Prop
  | [], a, w => G a w
  | s :: l, a, w =>
    if Region.wanted s.o (yielded ops a.tmps) = true then
      if s.fl = true then ∃ v, (execOp a.eval s.o).run P w = .ok (.value v) w ∧ CR P ops G l (a.put s.o.dst v) w
      else s.o.upon P a (fun a' w' => (∀ r ∈ s.rs, Stable P ops r a' w') ∧ CR P ops G l a' w') (QG G) ((execOp a.eval s.o).run P w)
    else CR P ops G l (a.put s.o.dst undef) w

section
variable {P : Program} {ops : Array Oper} {G : Act → World → Prop}

theorem upon_mono {o : Oper} {a : Act} {K K' : Act → World → Prop} (h : ∀ a w, K a w → K' a w) {r : Result Next} (hh : o.upon P a K (QG G) r) : o.upon P a K' (QG G) r := by
  cases r with
  | ok n w' =>
    cases n <;> simp only [Oper.upon] at hh ⊢ <;>
      first
        | exact h _ _ hh
        | exact Calls.mono hh (fun e w'' he => by cases e <;> first | exact h _ _ he | exact he)
        | exact Rows.mono hh (fun _ _ he => h _ _ he)
  | halt x w' => cases x <;> simp only [Oper.upon] at hh ⊢ <;> exact hh

/-- The i-th operation. -/
def opAt (ops : Array Oper) (i : Nat) : Oper := (ops[i]?).getD default
theorem opAt_eq {ops : Array Oper} {i : Nat} (h : i < ops.size) : ops[i]? = some (opAt ops i) := by
  unfold opAt; rw [Array.getElem?_eq_getElem h]; rfl

/-- No order is open: the operations as they stand. -/
theorem wpOps_of_CR : ∀ (l : List Nat) (a : Act) (w : World), (∀ i ∈ l, i < ops.size) → CR P ops G (l.map fun i => Stp.plain (opAt ops i)) a w → wpOps P ops (QG G) l a w
  | [], _, _, _, h => h
  | i :: l, a, w, hl, h => by
    have hi : i < ops.size := hl i (List.mem_cons_self ..)
    have ho := opAt_eq hi
    have ih := fun a w => wpOps_of_CR l a w fun j hj => hl j (List.mem_cons_of_mem _ hj)
    simp only [wpOps, ho]
    simp only [List.map_cons, CR, Stp.plain] at h
    split
    · rename_i hw
      rw [if_pos hw] at h
      simp only [Bool.false_eq_true, if_false] at h
      exact .inl (upon_mono (fun a w hh => ih a w hh.2) h)
    · rename_i hw
      rw [if_neg hw] at h
      exact ih _ _ h

theorem range_map_ops (ops : Array Oper) : ((List.range ops.size).map fun i => Stp.plain (opAt ops i)) = ops.toList.map Stp.plain := by
  apply List.ext_getElem
  · simp
  · intro i h1 h2
    have hi : i < ops.size := by simpa using h1
    simp [opAt, hi]

/-! ### an open order -/
theorem getq {x y : Array Value} {t : Nat} (hs : x.size = y.size) (h : x.getD t undef = y.getD t undef) : x[t]? = y[t]? := by
  by_cases ht : t < x.size
  · have ht' : t < y.size := hs ▸ ht
    simp only [Array.getD, ht, ht', dite_true] at h
    rw [Array.getElem?_eq_getElem ht, Array.getElem?_eq_getElem ht']
    exact congrArg some h
  · rw [Array.getElem?_eq_none (by omega), Array.getElem?_eq_none (by omega)]

theorem exec_agree {o : Oper} (hs : ∀ cs b, o.op ≠ .select cs b) {a a' : Act} (h : ∀ t ∈ o.looksAt ops, a.tmps.getD t undef = a'.tmps.getD t undef) :
    execOp a.eval o = execOp a'.eval o :=
  execOp_congr o hs fun x hx => by
    cases x with
    | tmp t => exact h t (List.mem_append_left _ (List.mem_filterMap.2 ⟨.tmp t, by simpa using hx, rfl⟩))
    | _ => rfl
theorem wanted_agree {o : Oper} {a a' : Act} (hs : a.tmps.size = a'.tmps.size) (h : ∀ t ∈ o.looksAt ops, a.tmps.getD t undef = a'.tmps.getD t undef) :
    Region.wanted o (yielded ops a.tmps) = Region.wanted o (yielded ops a'.tmps) := by
  unfold Region.wanted
  cases hg : o.guard with
  | none => rfl
  | some gw =>
    obtain ⟨g, want⟩ := gw
    have hy : yielded ops a.tmps g = yielded ops a'.tmps g := by
      unfold yielded
      cases ht : (ops[g]?).bind (·.dst) with
      | none => rfl
      | some t =>
        have := getq hs (h t (List.mem_append_right _ (by simp [hg, ht])))
        simp only [Option.bind_some, this]
    simp only [hy]

theorem getD_put (a : Act) (dst : Option Tmp) (v : Value) (t : Nat) (h : dst ≠ some t) : (a.put dst v).tmps.getD t undef = a.tmps.getD t undef := by
  cases dst with
  | none => rfl
  | some d =>
    have hne : d ≠ t := fun e => h (e ▸ rfl)
    simp [Act.put, Array.getElem?_setIfInBounds_ne hne]
theorem size_put (a : Act) (dst : Option Tmp) (v : Value) : (a.put dst v).tmps.size = a.tmps.size := by cases dst <;> simp [Act.put]
theorem defers_put (a : Act) (dst : Option Tmp) (v : Value) : (a.put dst v).defers = a.defers := by cases dst <;> rfl

/-- One number of a plan. -/
abbrev Pl := Nat × Bool × List Nat
def stp (ops : Array Oper) (p : Pl) : Stp := ⟨opAt ops p.1, p.2.1, p.2.2.map fun i => opAt ops i⟩

def isSelect : Op → Bool | .select .. => true | _ => false

/-- Must j stand ahead of i? -/
def pre (ops : Array Oper) (i j : Nat) : Bool := ((Region.before ops).getD i 0).testBit j

/-- The edges that bind in any order. -/
def edges (o : Oper) : List Nat := (o.after.toList.filter fun e => Region.binds .any e).map (·.on)

/-- WHAT IS ASKED OF A PLAN: a closed fact. -/
structure PlanOk (ops : Array Oper) (pr : Nat → Nat → Bool) (plan : List Pl) : Prop where
  all : ∀ i, i < ops.size → i ∈ plan.map (·.1)
  lt : ∀ p ∈ plan, p.1 < ops.size
  nodup : (plan.map (·.1)).Nodup
  nosel : ∀ i, i < ops.size → isSelect (opAt ops i).op = false
  dst : ∀ i, i < ops.size → ∀ j, j < ops.size → i ≠ j → ∀ d, (opAt ops i).dst = some d → (opAt ops j).dst ≠ some d
  pr_ok : ∀ i, i < ops.size → ∀ j, j < ops.size → pr i j = true → ∃ e ∈ edges (opAt ops i), e = j ∨ pr e j = true
  fldst : ∀ p ∈ plan, p.2.1 = true → (opAt ops p.1).dst.isSome = true
  reads : ∀ p ∈ plan, p.2.1 = true → ∀ j, j < ops.size → ∀ d, (opAt ops p.1).dst = some d → d ∈ (opAt ops j).looksAt ops → pr j p.1 = true
  topo : ∀ l p r, plan = l ++ p :: r → ∀ e ∈ edges (opAt ops p.1), e ∈ l.map (·.1)
  early : ∀ l k m p r, plan = l ++ k :: m ++ p :: r → k.2.1 = false → p.2.1 = true → ∃ q ∈ (k :: m).map (·.1), pr p.1 q = true
  rechk : ∀ l p m k r, plan = l ++ p :: m ++ k :: r → p.2.1 = true → k.2.1 = false → (p.1 ∈ k.2.2 ∧ ∀ d, (opAt ops k.1).dst = some d → d ∉ (opAt ops p.1).looksAt ops) ∨ pr k.1 p.1 = true

/-- Of one that was carried out ahead. -/
def Pend (P : Program) (ops : Array Oper) (r : Nat) (a : Act) (w : World) : Prop :=
  (Region.wanted (opAt ops r) (yielded ops a.tmps) = true → ∀ d, (opAt ops r).dst = some d → (execOp a.eval (opAt ops r)).run P w = .ok (.value (a.tmps.getD d undef)) w) ∧
  (Region.wanted (opAt ops r) (yielded ops a.tmps) = false → ∀ d, (opAt ops r).dst = some d → a.tmps.getD d undef = undef)

/-- The two that go in step: 'a', as the order goes; 'c', as the plan goes, ahead of it by what is pending. -/
structure Inv (P : Program) (ops : Array Oper) (G : Act → World → Prop) (pr : Nat → Nat → Bool) (plan done : List Pl) (rest : List Pl) (pend : List Nat) (listed : Array Bool) (a c : Act) (w : World) : Prop where
  cut : plan = done ++ rest
  size : listed.size = ops.size
  isl : ∀ i, i < ops.size → (listed.getD i false = true ↔ i ∈ done.map (·.1) ∧ i ∉ pend)
  pin : ∀ r ∈ pend, ∃ p ∈ done, p.1 = r ∧ p.2.1 = true
  pnd : pend.Nodup
  down : ∀ i, i < ops.size → listed.getD i false = true → ∀ j, j < ops.size → pr i j = true → listed.getD j false = true
  tsize : a.tmps.size = c.tmps.size
  tmps : ∀ t, (∀ r ∈ pend, (opAt ops r).dst ≠ some t) → a.tmps.getD t undef = c.tmps.getD t undef
  defers : a.defers = c.defers
  fits : ∀ i, i < ops.size → ∀ d, (opAt ops i).dst = some d → d < c.tmps.size
  pok : ∀ r ∈ pend, Pend P ops r c w
  run : CR P ops G (rest.map (stp ops)) c w

variable {pr : Nat → Nat → Bool} {plan done rest : List Pl} {pend : List Nat} {listed : Array Bool} {a c : Act} {w : World}

theorem PlanOk.nosel' (ok : PlanOk ops pr plan) {i : Nat} (hi : i < ops.size) : ∀ cs b, (opAt ops i).op ≠ .select cs b := fun cs b e => by
  have := ok.nosel i hi; rw [e] at this; cases this

theorem uniq_of : ∀ {l : List Pl}, (l.map (·.1)).Nodup → ∀ {p q : Pl}, p ∈ l → q ∈ l → p.1 = q.1 → p = q
  | x :: l, h, p, q, hp, hq, e => by
    simp only [List.map_cons, List.nodup_cons] at h
    rcases List.mem_cons.1 hp with rfl | hp'
    · rcases List.mem_cons.1 hq with rfl | hq'
      · rfl
      · exact absurd (List.mem_map.2 ⟨q, hq', e.symm⟩) h.1
    · rcases List.mem_cons.1 hq with rfl | hq'
      · exact absurd (List.mem_map.2 ⟨p, hp', e⟩) h.1
      · exact uniq_of h.2 hp' hq' e

theorem Inv.disj (ok : PlanOk ops pr plan) (I : Inv P ops G pr plan done rest pend listed a c w) {p q : Pl} (hp : p ∈ done) (hq : q ∈ rest) : p.1 ≠ q.1 := by
  intro e
  have := ok.nodup
  rw [I.cut, List.map_append, List.nodup_append] at this
  exact this.2.2 p.1 (List.mem_map.2 ⟨p, hp, rfl⟩) q.1 (List.mem_map.2 ⟨q, hq, rfl⟩) e

theorem Inv.mem_done (I : Inv P ops G pr plan done rest pend listed a c w) {p : Pl} (hp : p ∈ done) : p ∈ plan := by rw [I.cut]; exact List.mem_append_left _ hp
theorem Inv.mem_rest (I : Inv P ops G pr plan done rest pend listed a c w) {p : Pl} (hp : p ∈ rest) : p ∈ plan := by rw [I.cut]; exact List.mem_append_right _ hp

/-- What must stand ahead stands ahead in the plan. -/
theorem PlanOk.before (ok : PlanOk ops pr plan) : ∀ (n : Nat) (l : List Pl) (p : Pl) (r : List Pl), l.length = n → plan = l ++ p :: r → ∀ j, j < ops.size → pr p.1 j = true → j ∈ l.map (·.1) := by
  intro n
  induction n using Nat.strongRecOn with
  | _ n ih =>
    intro l p r hn hcut j hj hpr
    have hp : p ∈ plan := by rw [hcut]; simp
    obtain ⟨e, he, h⟩ := ok.pr_ok p.1 (ok.lt p hp) j hj hpr
    have hel := ok.topo l p r hcut e he
    rcases h with rfl | h
    · exact hel
    · obtain ⟨q, hq, rfl⟩ := List.mem_map.1 hel
      obtain ⟨l1, l2, rfl⟩ := List.append_of_mem hq
      have := ih l1.length (by subst hn; simp) l1 q (l2 ++ p :: r) rfl (by rw [hcut]; simp) j hj h
      simp only [List.map_append, List.mem_append]
      exact .inl this

theorem getD_put_same (a : Act) (d : Tmp) (v : Value) (h : d < a.tmps.size) : (a.put (some d) v).tmps.getD d undef = v := by
  simp [Act.put, h]

theorem PlanOk.self (ok : PlanOk ops pr plan) {p : Pl} (hp : p ∈ plan) (hf : p.2.1 = true) {d : Tmp} (hd : (opAt ops p.1).dst = some d) : d ∉ (opAt ops p.1).looksAt ops := by
  intro h
  obtain ⟨l, r, hcut⟩ := List.append_of_mem hp
  have := ok.before _ l p r rfl hcut p.1 (ok.lt p hp) (ok.reads p hp hf p.1 (ok.lt p hp) d hd h)
  have hn := ok.nodup
  rw [hcut, List.map_append, List.nodup_append] at hn
  exact hn.2.2 p.1 this p.1 (by simp) rfl

/-- Nothing that a reader looks at has turned. -/
theorem Pend.keep {r : Nat} (hr : r < ops.size) (ok : PlanOk ops pr plan) {d : Option Tmp} {u : Value} (h : Pend P ops r c w) (hl : ∀ t, d = some t → t ∉ (opAt ops r).looksAt ops) (hd : ∀ t, d = some t → (opAt ops r).dst ≠ some t) :
    Pend P ops r (c.put d u) w := by
  have hw := wanted_put (ops := ops) (opAt ops r) c d u hl
  have hx := execOp_put (ops := ops) (opAt ops r) (ok.nosel' hr) c d u hl
  refine ⟨fun hwant e he => ?_, fun hwant e he => ?_⟩
  · rw [getD_put c d u e (fun h' => hd e h' he), hx]
    exact h.1 (hw ▸ hwant) e he
  · rw [getD_put c d u e (fun h' => hd e h' he)]
    exact h.2 (hw ▸ hwant) e he

/-- The plan runs ahead by one that floats. -/
theorem Inv.ahead (ok : PlanOk ops pr plan) {p : Pl} (I : Inv P ops G pr plan done (p :: rest) pend listed a c w) (hf : p.2.1 = true) :
    ∃ c', Inv P ops G pr plan (done ++ [p]) rest (p.1 :: pend) listed a c' w := by
  have hp : p ∈ plan := I.mem_rest (List.mem_cons_self ..)
  have hlt := ok.lt p hp
  obtain ⟨d, hd⟩ := Option.isSome_iff_exists.1 (ok.fldst p hp hf)
  have hds : d < c.tmps.size := I.fits p.1 hlt d hd
  have hnd : p.1 ∉ done.map (·.1) := fun h => by
    obtain ⟨q, hq, e⟩ := List.mem_map.1 h
    exact I.disj ok hq (List.mem_cons_self ..) e
  have hnp : p.1 ∉ pend := fun h => by
    obtain ⟨q, hq, e, _⟩ := I.pin _ h
    exact hnd (List.mem_map.2 ⟨q, hq, e⟩)
  have hself := ok.self hp hf hd
  -- pending ones do not look at d: they stand ahead of p in the plan
  have hpend : ∀ r ∈ pend, r < ops.size ∧ r ≠ p.1 ∧ d ∉ (opAt ops r).looksAt ops := by
    intro r hr
    obtain ⟨q, hq, e, hqf⟩ := I.pin r hr
    have hqp := I.mem_done hq
    have hrl : r < ops.size := e ▸ ok.lt q hqp
    refine ⟨hrl, fun h => hnp (h ▸ hr), fun hmem => ?_⟩
    have hpr := ok.reads p hp hf r hrl d hd hmem
    obtain ⟨l1, l2, h2⟩ := List.append_of_mem hq
    have := ok.before _ l1 q (l2 ++ p :: rest) rfl (by rw [I.cut, h2]; simp) p.1 hlt (by rw [e]; exact hpr)
    exact hnd (by rw [h2]; simp only [List.map_append, List.mem_append]; exact .inl this)
  -- whatever is put there
  have key : ∀ u, CR P ops G (rest.map (stp ops)) (c.put (some d) u) w → Pend P ops p.1 (c.put (some d) u) w → Inv P ops G pr plan (done ++ [p]) rest (p.1 :: pend) listed a (c.put (some d) u) w := by
    intro u hrun hpp
    refine ⟨by rw [I.cut]; simp, I.size, fun i hi => ?_, ?_, List.nodup_cons.2 ⟨hnp, I.pnd⟩, I.down, by rw [size_put]; exact I.tsize, fun t ht => ?_, by rw [defers_put]; exact I.defers, fun i hi e he => by rw [size_put]; exact I.fits i hi e he, ?_, hrun⟩
    · rw [I.isl i hi]
      constructor
      · rintro ⟨h1, h2⟩
        refine ⟨by simp only [List.map_append, List.mem_append]; exact .inl h1, fun h => ?_⟩
        rcases List.mem_cons.1 h with rfl | h
        · exact hnd h1
        · exact h2 h
      · rintro ⟨h1, h2⟩
        simp only [List.map_append, List.mem_append, List.map_cons, List.map_nil, List.mem_singleton] at h1
        rcases h1 with h1 | rfl
        · exact ⟨h1, fun h => h2 (List.mem_cons_of_mem _ h)⟩
        · exact absurd (List.mem_cons_self ..) h2
    · intro r hr
      rcases List.mem_cons.1 hr with rfl | hr
      · exact ⟨p, by simp, rfl, hf⟩
      · obtain ⟨q, hq, e⟩ := I.pin r hr
        exact ⟨q, by simp [hq], e⟩
    · have htd : d ≠ t := fun e => ht p.1 (List.mem_cons_self ..) (e ▸ hd)
      rw [getD_put _ _ _ _ (fun e => htd (Option.some.inj e))]
      exact I.tmps t fun r hr => ht r (List.mem_cons_of_mem _ hr)
    · intro r hr
      rcases List.mem_cons.1 hr with rfl | hr
      · exact hpp
      · obtain ⟨hrl, hne, hnl⟩ := hpend r hr
        refine (I.pok r hr).keep hrl ok (fun t e => by cases e; exact hnl) (fun t e => by cases e; exact fun h => ok.dst r hrl p.1 hlt hne d h hd)
  have hrun := I.run
  simp only [List.map_cons, CR] at hrun
  have hso : (stp ops p).o = opAt ops p.1 := rfl
  have hfl : (stp ops p).fl = true := hf
  rw [hso, hfl, hd] at hrun
  have hw : ∀ u, Region.wanted (opAt ops p.1) (yielded ops (c.put (some d) u).tmps) = Region.wanted (opAt ops p.1) (yielded ops c.tmps) :=
    fun u => wanted_put (ops := ops) (opAt ops p.1) c (some d) u (fun t e => by cases e; exact hself)
  have hx : ∀ u, execOp (c.put (some d) u).eval (opAt ops p.1) = execOp c.eval (opAt ops p.1) :=
    fun u => execOp_put (ops := ops) (opAt ops p.1) (ok.nosel' hlt) c (some d) u (fun t e => by cases e; exact hself)
  split at hrun
  · rename_i hwant
    rw [if_pos rfl] at hrun
    obtain ⟨v, hv, hrun⟩ := hrun
    refine ⟨_, key v hrun ⟨fun _ e he => ?_, fun hf' => ?_⟩⟩
    · rw [hd] at he; cases he
      rw [hx, getD_put_same _ _ _ hds]; exact hv
    · rw [hw, hwant] at hf'; cases hf'
  · rename_i hwant
    refine ⟨_, key undef hrun ⟨fun hf' => ?_, fun _ e he => ?_⟩⟩
    · rw [hw] at hf'; exact absurd hf' hwant
    · rw [hd] at he; cases he
      exact getD_put_same _ _ _ hds

/-- It runs ahead as far as it can. -/
theorem Inv.aheadAll (ok : PlanOk ops pr plan) : ∀ (rest done : List Pl) (pend : List Nat) (c : Act), Inv P ops G pr plan done rest pend listed a c w →
    ∃ done' rest' pend' c', Inv P ops G pr plan done' rest' pend' listed a c' w ∧ (∀ p l, rest' = p :: l → p.2.1 = false) ∧ pend'.length + rest'.length = pend.length + rest.length := by
  intro rest
  induction rest with
  | nil => exact fun done pend c I => ⟨done, [], pend, c, I, (fun p l e => by cases e), rfl⟩
  | cons p rest ih =>
    intro done pend c I
    by_cases hf : p.2.1 = true
    · obtain ⟨c', I'⟩ := I.ahead ok hf
      obtain ⟨d', r', p', c'', I'', h, hn⟩ := ih _ _ _ I'
      refine ⟨d', r', p', c'', I'', h, ?_⟩
      rw [hn]; simp; omega
    · exact ⟨done, p :: rest, pend, c, I, (fun q l e => by cases e; simpa using hf), rfl⟩

theorem getD_set (L : Array Bool) (i j : Nat) (h : i < L.size) : (L.setIfInBounds i true).getD j false = if i = j then true else L.getD j false := by
  by_cases e : i = j
  · subst e; simp [Array.getD, h]
  · rw [if_neg e]
    simp only [Array.getD_eq_getD_getElem?, Array.getElem?_setIfInBounds_ne e]

/-- What stands ready looks at nothing that is pending. -/
theorem Inv.clean (ok : PlanOk ops pr plan) (I : Inv P ops G pr plan done rest pend listed a c w) {i : Nat} (hi : i < ops.size) (hready : ∀ j, j < ops.size → pr i j = true → listed.getD j false = true) :
    ∀ t ∈ (opAt ops i).looksAt ops, a.tmps.getD t undef = c.tmps.getD t undef := by
  intro t ht
  refine I.tmps t fun r hr hd => ?_
  obtain ⟨q, hq, e, hqf⟩ := I.pin r hr
  have hqp := I.mem_done hq
  have hrl : r < ops.size := e ▸ ok.lt q hqp
  have hpr := ok.reads q hqp hqf i hi t (by rw [e]; exact hd) ht
  rw [e] at hpr
  exact ((I.isl r hrl).1 (hready r hrl hpr)).2 hr

/-- The order comes to one that the plan has carried out ahead. -/
theorem Inv.catch (ok : PlanOk ops pr plan) (I : Inv P ops G pr plan done rest pend listed a c w) {r : Nat} (hr : r ∈ pend) (hready : ∀ j, j < ops.size → pr r j = true → listed.getD j false = true)
    {K : Act → World → Prop} (hK : ∀ a', Inv P ops G pr plan done rest (pend.erase r) (listed.setIfInBounds r true) a' c w → K a' w) : wpOp P ops (QG G) r K a w := by
  obtain ⟨q, hq, e, hqf⟩ := I.pin r hr
  have hqp := I.mem_done hq
  have hrl : r < ops.size := e ▸ ok.lt q hqp
  obtain ⟨d, hd⟩ := Option.isSome_iff_exists.1 (ok.fldst q hqp hqf)
  rw [e] at hd
  have hds : d < a.tmps.size := I.tsize ▸ I.fits r hrl d hd
  have hclean := I.clean ok hrl hready
  have hw := wanted_agree (ops := ops) (o := opAt ops r) I.tsize hclean
  have hx := exec_agree (ops := ops) (ok.nosel' hrl) hclean
  have hself : d ∉ (opAt ops r).looksAt ops := by rw [← e]; exact ok.self hqp hqf (by rw [e]; exact hd)
  have key : Inv P ops G pr plan done rest (pend.erase r) (listed.setIfInBounds r true) (a.put (some d) (c.tmps.getD d undef)) c w := by
    refine ⟨I.cut, by simp [I.size], fun i hi => ?_, fun x hx' => I.pin x (List.mem_of_mem_erase hx'), I.pnd.erase _, fun i hi hl j hj hpr => ?_, by rw [size_put]; exact I.tsize, fun t ht => ?_, by rw [defers_put]; exact I.defers, I.fits, fun x hx' => I.pok x (List.mem_of_mem_erase hx'), I.run⟩
    · rw [getD_set _ _ _ (by rw [I.size]; exact hrl)]
      by_cases hir : r = i
      · subst hir
        simp only [if_true, true_iff]
        exact ⟨List.mem_map.2 ⟨q, hq, e⟩, fun h => (List.Nodup.mem_erase_iff I.pnd).1 h |>.1 rfl⟩
      · rw [if_neg hir, I.isl i hi, List.Nodup.mem_erase_iff I.pnd]
        exact ⟨fun ⟨h1, h2⟩ => ⟨h1, fun h => h2 h.2⟩, fun ⟨h1, h2⟩ => ⟨h1, fun h => h2 ⟨fun h' => hir h'.symm, h⟩⟩⟩
    · rw [getD_set _ _ _ (by rw [I.size]; exact hrl)] at hl ⊢
      by_cases hjr : r = j
      · rw [if_pos hjr]
      · rw [if_neg hjr]
        by_cases hir : r = i
        · subst hir; exact hready j hj hpr
        · rw [if_neg hir] at hl; exact I.down i hi hl j hj hpr
    · by_cases htd : d = t
      · subst htd; exact getD_put_same _ _ _ hds
      · rw [getD_put _ _ _ _ (fun h => htd (Option.some.inj h))]
        refine I.tmps t fun x hx' h => ?_
        by_cases hxr : x = r
        · subst hxr; rw [hd] at h; exact htd (Option.some.inj h)
        · exact ht x ((List.Nodup.mem_erase_iff I.pnd).2 ⟨hxr, hx'⟩) h
  unfold wpOp
  simp only [opAt_eq hrl]
  have hp := I.pok r hr
  split
  · rename_i hwant
    left
    unfold Oper.wp
    rw [hx, hp.1 (hw ▸ hwant) d hd]
    simp only [Oper.upon, hd]
    exact hK _ key
  · rename_i hwant
    have : c.tmps.getD d undef = undef := hp.2 (by rw [← hw]; simpa using hwant) d hd
    rw [this] at key
    rw [hd]
    exact hK _ key

theorem upon_two {o : Oper} {a c : Act} {Ka Kc : Act → World → Prop} {r : Result Next} (h : o.upon P c Kc (QG G) r)
    (hv : ∀ u w, Kc (c.put o.dst u) w → Ka (a.put o.dst u) w) (hd : ∀ d w, Kc (({ c with defers := d :: c.defers } : Act).put o.dst undef) w → Ka (({ a with defers := d :: a.defers } : Act).put o.dst undef) w) :
    o.upon P a Ka (QG G) r := by
  cases r with
  | ok n w' =>
    cases n <;> simp only [Oper.upon] at h ⊢
    case value u => exact hv _ _ h
    case skip => exact hv _ _ h
    case defer d => exact hd _ _ h
    case enter f args => exact Calls.mono h fun e w'' he => by cases e <;> first | exact hv _ _ he | exact he
    case row row args => exact Rows.mono h fun u w'' he => hv _ _ he
  | halt x w' => cases x <;> simp only [Oper.upon] at h ⊢ <;> exact h

/-- The order comes to the plan's next one that acts. -/
theorem Inv.step (ok : PlanOk ops pr plan) {p : Pl} (I : Inv P ops G pr plan done (p :: rest) pend listed a c w) (hf : p.2.1 = false) (hready : ∀ j, j < ops.size → pr p.1 j = true → listed.getD j false = true)
    {K : Act → World → Prop} (hK : ∀ a' c' w', Inv P ops G pr plan (done ++ [p]) rest pend (listed.setIfInBounds p.1 true) a' c' w' → K a' w') : wpOp P ops (QG G) p.1 K a w := by
  have hp : p ∈ plan := I.mem_rest (List.mem_cons_self ..)
  have hlt := ok.lt p hp
  have hnd : p.1 ∉ done.map (·.1) := fun h => by
    obtain ⟨q, hq, e⟩ := List.mem_map.1 h
    exact I.disj ok hq (List.mem_cons_self ..) e
  have hnp : p.1 ∉ pend := fun h => by
    obtain ⟨q, hq, e, _⟩ := I.pin _ h
    exact hnd (List.mem_map.2 ⟨q, hq, e⟩)
  have hclean := I.clean ok hlt hready
  have hw := wanted_agree (ops := ops) (o := opAt ops p.1) I.tsize hclean
  have hx := exec_agree (ops := ops) (ok.nosel' hlt) hclean
  have hpend : ∀ r ∈ pend, r < ops.size ∧ r ≠ p.1 ∧ r ∈ p.2.2 ∧ ∀ d, (opAt ops p.1).dst = some d → d ∉ (opAt ops r).looksAt ops := by
    intro r hr
    obtain ⟨q, hq, e, hqf⟩ := I.pin r hr
    have hqp := I.mem_done hq
    have hrl : r < ops.size := e ▸ ok.lt q hqp
    refine ⟨hrl, fun h => hnp (h ▸ hr), ?_⟩
    obtain ⟨l1, l2, h2⟩ := List.append_of_mem hq
    rcases ok.rechk l1 q l2 p rest (by rw [I.cut, h2]) hqf hf with h | h
    · rw [e] at h; exact h
    · rw [e] at h
      exact absurd hr ((I.isl r hrl).1 (hready r hrl h)).2
  have key : ∀ (a0 c0 : Act) (u : Value) (w' : World), a0.tmps = a.tmps → c0.tmps = c.tmps → a0.defers = c0.defers →
      (∀ r ∈ pend, Pend P ops r (c0.put (opAt ops p.1).dst u) w') → CR P ops G (rest.map (stp ops)) (c0.put (opAt ops p.1).dst u) w' →
      Inv P ops G pr plan (done ++ [p]) rest pend (listed.setIfInBounds p.1 true) (a0.put (opAt ops p.1).dst u) (c0.put (opAt ops p.1).dst u) w' := by
    intro a0 c0 u w' ha hc hdf hpd hrun
    refine ⟨by rw [I.cut]; simp, by simp [I.size], fun i hi => ?_, fun r hr => ?_, I.pnd, fun i hi hl j hj hpr => ?_, by rw [size_put, size_put, ha, hc]; exact I.tsize, fun t ht => ?_, by rw [defers_put, defers_put]; exact hdf, fun i hi e he => by rw [size_put, hc]; exact I.fits i hi e he, hpd, hrun⟩
    · rw [getD_set _ _ _ (by rw [I.size]; exact hlt)]
      by_cases hip : p.1 = i
      · subst hip
        simp only [if_true, true_iff]
        exact ⟨by simp, hnp⟩
      · rw [if_neg hip, I.isl i hi]
        simp only [List.map_append, List.mem_append, List.map_cons, List.map_nil, List.mem_singleton]
        exact ⟨fun ⟨h1, h2⟩ => ⟨.inl h1, h2⟩, fun ⟨h1, h2⟩ => ⟨h1.resolve_right (fun h => hip h.symm), h2⟩⟩
    · obtain ⟨q, hq, e⟩ := I.pin r hr
      exact ⟨q, by simp [hq], e⟩
    · rw [getD_set _ _ _ (by rw [I.size]; exact hlt)] at hl ⊢
      by_cases hjr : p.1 = j
      · rw [if_pos hjr]
      · rw [if_neg hjr]
        by_cases hir : p.1 = i
        · subst hir; exact hready j hj hpr
        · rw [if_neg hir] at hl; exact I.down i hi hl j hj hpr
    · cases hdd : (opAt ops p.1).dst with
      | none => simp only [Act.put, ha, hc]; exact I.tmps t ht
      | some d =>
        by_cases htd : d = t
        · subst htd
          have hds := I.fits p.1 hlt d hdd
          rw [getD_put_same _ _ _ (by rw [ha, I.tsize]; exact hds), getD_put_same _ _ _ (by rw [hc]; exact hds)]
        · rw [getD_put _ _ _ _ (fun h => htd (Option.some.inj h)), getD_put _ _ _ _ (fun h => htd (Option.some.inj h)), ha, hc]
          exact I.tmps t ht
  have hrun := I.run
  simp only [List.map_cons, CR] at hrun
  have hso : (stp ops p).o = opAt ops p.1 := rfl
  have hfl : (stp ops p).fl = false := hf
  rw [hso, hfl] at hrun
  -- an unwanted reader stays so
  have hun : ∀ r ∈ pend, ∀ (c0 : Act) (u : Value), c0.tmps = c.tmps → Region.wanted (opAt ops r) (yielded ops (c0.put (opAt ops p.1).dst u).tmps) = Region.wanted (opAt ops r) (yielded ops c.tmps) := by
    intro r hr c0 u hc
    obtain ⟨hrl, hne, _, hnl⟩ := hpend r hr
    have := wanted_put (ops := ops) (opAt ops r) c0 (opAt ops p.1).dst u hnl
    rw [this, hc]
  have hval : ∀ r ∈ pend, ∀ (c0 : Act) (u : Value), c0.tmps = c.tmps → ∀ d, (opAt ops r).dst = some d → (c0.put (opAt ops p.1).dst u).tmps.getD d undef = c.tmps.getD d undef := by
    intro r hr c0 u hc d hd
    obtain ⟨hrl, hne, _, hnl⟩ := hpend r hr
    rw [getD_put _ _ _ _ (fun h => ok.dst r hrl p.1 hlt hne d hd h), hc]
  unfold wpOp
  simp only [opAt_eq hlt]
  have hpd : ∀ (c0 : Act) (u : Value) (w' : World), c0.tmps = c.tmps → (∀ r ∈ (stp ops p).rs, Stable P ops r (c0.put (opAt ops p.1).dst u) w') → ∀ r ∈ pend, Pend P ops r (c0.put (opAt ops p.1).dst u) w' := by
    intro c0 u w' hc hst r hr
    obtain ⟨hrl, hne, hin, hnl⟩ := hpend r hr
    refine ⟨fun hwant d hd => hst (opAt ops r) (List.mem_map.2 ⟨r, hin, rfl⟩) hwant d hd, fun hwant d hd => ?_⟩
    rw [hval r hr c0 u hc d hd]
    exact (I.pok r hr).2 (by rw [← hun r hr c0 u hc]; exact hwant) d hd
  split
  · rename_i hwant
    rw [if_pos (hw ▸ hwant)] at hrun
    simp only [Bool.false_eq_true, if_false] at hrun
    left
    unfold Oper.wp
    rw [hx]
    refine upon_two hrun (fun u w' hh => hK _ _ _ (key a c u w' rfl rfl I.defers (hpd c u w' rfl hh.1) hh.2)) (fun d w' hh => ?_)
    exact hK _ _ _ (key { a with defers := d :: a.defers } { c with defers := d :: c.defers } undef w' rfl rfl (by simp [I.defers]) (hpd { c with defers := d :: c.defers } undef w' rfl hh.1) hh.2)
  · rename_i hwant
    have hwc : ¬ Region.wanted (opAt ops p.1) (yielded ops c.tmps) = true := by rw [← hw]; exact hwant
    rw [if_neg hwc] at hrun
    refine hK _ _ _ (key a c undef w rfl rfl I.defers (fun r hr => ?_) hrun)
    obtain ⟨hrl, hne, _, hnl⟩ := hpend r hr
    exact (I.pok r hr).keep hrl ok hnl (fun t e h => ok.dst r hrl p.1 hlt hne t h e)

theorem mem_ready {i : Nat} (h : i ∈ Region.ready .any ops listed) (hs : listed.size = ops.size) : i < ops.size ∧ listed.getD i false = false ∧ ∀ e ∈ edges (opAt ops i), listed.getD e false = true := by
  unfold Region.ready at h
  simp only [List.mem_filter, List.mem_range, Bool.and_eq_true, Bool.not_eq_true'] at h
  obtain ⟨h1, h2, h3⟩ := h
  refine ⟨h1, ?_, fun e he => ?_⟩
  · simpa [Array.getD, hs, h1] using h2
  · rw [opAt_eq h1] at h3
    simp only [Option.map_some, Option.getD_some] at h3
    obtain ⟨x, hx, rfl⟩ := List.mem_map.1 he
    obtain ⟨hx1, hx2⟩ := List.mem_filter.1 hx
    have := Array.all_eq_true'.1 h3 x (by simpa using hx1)
    simpa [hx2] using this
theorem ready_mem {i : Nat} (hs : listed.size = ops.size) (h1 : i < ops.size) (h2 : listed.getD i false = false) (h3 : ∀ e ∈ edges (opAt ops i), listed.getD e false = true) : i ∈ Region.ready .any ops listed := by
  unfold Region.ready
  simp only [List.mem_filter, List.mem_range, Bool.and_eq_true, Bool.not_eq_true']
  refine ⟨h1, by simpa [Array.getD, hs, h1] using h2, ?_⟩
  rw [opAt_eq h1]
  simp only [Option.map_some, Option.getD_some]
  refine Array.all_eq_true'.2 fun x hx => ?_
  by_cases hb : Region.binds .any x = true
  · simp [hb, h3 x.on (List.mem_map.2 ⟨x, List.mem_filter.2 ⟨by simpa using hx, hb⟩, rfl⟩)]
  · simp [hb]

theorem first_not (q : Pl → Bool) : ∀ (l : List Pl), (∃ x ∈ l, q x = false) → ∃ l1 p l2, l = l1 ++ p :: l2 ∧ q p = false ∧ ∀ x ∈ l1, q x = true
  | [], ⟨_, h, _⟩ => by cases h
  | x :: l, h => by
    cases hx : q x with
    | false => exact ⟨[], x, l, rfl, hx, fun y hy => by cases hy⟩
    | true =>
      obtain ⟨y, hy, hq⟩ := h
      rcases List.mem_cons.1 hy with rfl | hy
      · rw [hx] at hq; cases hq
      · obtain ⟨l1, p, l2, rfl, hp, hl⟩ := first_not q l ⟨y, hy, hq⟩
        exact ⟨x :: l1, p, l2, rfl, hp, fun z hz => (List.mem_cons.1 hz).elim (fun e => e ▸ hx) (hl z)⟩

theorem last_acts : ∀ (m : List Pl) (p : Pl), p.2.1 = false → ∃ m1 k m2, p :: m = m1 ++ k :: m2 ∧ k.2.1 = false ∧ ∀ x ∈ m2, x.2.1 = true
  | [], p, hpf => ⟨[], p, [], rfl, hpf, fun x hx => by cases hx⟩
  | y :: m, p, hpf => by
    cases hyf : y.2.1 with
    | false =>
      obtain ⟨m1, k, m2, e, h1, h2⟩ := last_acts m y hyf
      exact ⟨p :: m1, k, m2, by rw [e]; rfl, h1, h2⟩
    | true =>
      obtain ⟨m1, k, m2, e, h1, h2⟩ := last_acts m p hpf
      cases m1 with
      | nil =>
        simp only [List.nil_append, List.cons.injEq] at e
        obtain ⟨rfl, rfl⟩ := e
        exact ⟨[], p, y :: m, rfl, hpf, fun x hx => (List.mem_cons.1 hx).elim (fun e => e ▸ hyf) (h2 x)⟩
      | cons z m1 =>
        simp only [List.cons_append, List.cons.injEq] at e
        obtain ⟨rfl, rfl⟩ := e
        exact ⟨p :: y :: m1, k, m2, rfl, h1, h2⟩

/-- What acts, in a plan's order. -/
def actsOf (plan : List Pl) : List Nat := (plan.filter fun p => !p.2.1).map (·.1)
theorem actsOf_cons_t {p : Pl} {l : List Pl} (h : p.2.1 = true) : actsOf (p :: l) = actsOf l := by simp [actsOf, h]
theorem actsOf_cons_f {p : Pl} {l : List Pl} (h : p.2.1 = false) : actsOf (p :: l) = p.1 :: actsOf l := by simp [actsOf, h]

theorem aheadAll_acts (ok : PlanOk ops pr plan) : ∀ (rest done : List Pl) (pend : List Nat) (c : Act), Inv P ops G pr plan done rest pend listed a c w →
    ∃ done' rest' pend' c', Inv P ops G pr plan done' rest' pend' listed a c' w ∧ (∀ p l, rest' = p :: l → p.2.1 = false) ∧ pend'.length + rest'.length = pend.length + rest.length ∧ actsOf rest' = actsOf rest := by
  intro rest
  induction rest with
  | nil => exact fun done pend c I => ⟨done, [], pend, c, I, (fun p l e => by cases e), rfl, rfl⟩
  | cons p rest ih =>
    intro done pend c I
    by_cases hf : p.2.1 = true
    · obtain ⟨c', I'⟩ := I.ahead ok hf
      obtain ⟨d', r', p', c'', I'', h, hn, ha⟩ := ih _ _ _ I'
      exact ⟨d', r', p', c'', I'', h, by rw [hn]; simp; omega, by rw [ha, actsOf_cons_t hf]⟩
    · exact ⟨done, p :: rest, pend, c, I, (fun q l e => by cases e; simpa using hf), rfl, rfl⟩

theorem ready_nonempty (ok : PlanOk ops pr plan) (hs : listed.size = ops.size) (hex : ∃ x ∈ plan, listed.getD x.1 false = false) : Region.ready .any ops listed ≠ [] := by
  intro hnil
  obtain ⟨l1, p, l2, hcut, hp, hl⟩ := first_not (fun x => listed.getD x.1 false) plan hex
  have hpp : p ∈ plan := by rw [hcut]; simp
  have := ready_mem (listed := listed) (i := p.1) hs (ok.lt p hpp) hp (fun e he => by
    obtain ⟨q, hq, rfl⟩ := List.mem_map.1 (ok.topo l1 p l2 hcut e he)
    exact hl q hq)
  rw [hnil] at this; cases this

theorem go_eq (ops : Array Oper) (fuel t : Nat) (listed : Array Bool) : Region.linearise.go .any ops (fuel + 1) t listed [] =
    match (Region.ready .any ops listed)[t % (Region.ready .any ops listed).length]? with
    | some i => i :: Region.linearise.go .any ops fuel (t / (Region.ready .any ops listed).length) (listed.setIfInBounds i true) []
    | none => [] := by
  simp only [Region.linearise.go]
  change (match (Region.ready .any ops listed)[t % (Region.ready .any ops listed).length]? with
      | some i => Region.linearise.go .any ops fuel (t / (Region.ready .any ops listed).length) (listed.setIfInBounds i true) [i]
      | none => [].reverse) = _
  split
  · rw [linearise_go_acc]; rfl
  · rfl
theorem ready_pick (hne : Region.ready .any ops listed ≠ []) (t : Nat) : ∃ i, (Region.ready .any ops listed)[t % (Region.ready .any ops listed).length]? = some i := by
  have hlt : t % (Region.ready .any ops listed).length < (Region.ready .any ops listed).length := Nat.mod_lt _ (List.length_pos_iff.2 hne)
  exact ⟨_, List.getElem?_eq_getElem hlt⟩

/-- THE ORDER THAT WAS PICKED, WHERE WHAT ACTS STANDS IN IT AS IN THE PLAN: the plan's answer. -/
theorem wpOps_of_inv (ok : PlanOk ops pr plan) (A : Nat → Bool) (hA : ∀ p ∈ plan, A p.1 = !p.2.1) : ∀ (fuel t : Nat) (done rest : List Pl) (pend : List Nat) (listed : Array Bool) (a c : Act) (w : World),
    Inv P ops G pr plan done rest pend listed a c w → fuel = pend.length + rest.length → (Region.linearise.go .any ops fuel t listed []).filter A = actsOf rest →
    wpOps P ops (QG G) (Region.linearise.go .any ops fuel t listed []) a w := by
  intro fuel
  induction fuel with
  | zero =>
    intro t done rest pend listed a c w I hn _
    obtain rfl : pend = [] := List.length_eq_zero_iff.1 (by omega)
    obtain rfl : rest = [] := List.length_eq_zero_iff.1 (by omega)
    have heq : a = c := by
      obtain ⟨at_, ad⟩ := a
      obtain ⟨ct, cd⟩ := c
      have h1 : at_ = ct := by
        apply Array.ext_getElem?
        intro t
        exact getq I.tsize (I.tmps t fun r hr => by cases hr)
      have h2 : ad = cd := I.defers
      rw [h1, h2]
    show QG G .normal a w
    rw [heq]; exact I.run
  | succ fuel ih =>
    intro t done rest pend listed a c w I0 hn0 hacts0
    obtain ⟨done, rest, pend, c, I, hhead, hn', ha'⟩ := aheadAll_acts ok rest done pend c I0
    have hn : fuel + 1 = pend.length + rest.length := by omega
    have hacts := hacts0.trans ha'.symm
    clear hn' hn0 I0 hacts0 ha'
    have hex : ∃ x ∈ plan, listed.getD x.1 false = false := by
      cases pend with
      | cons r l =>
        obtain ⟨q, hq, e, _⟩ := I.pin r (List.mem_cons_self ..)
        refine ⟨q, I.mem_done hq, ?_⟩
        cases hl : listed.getD q.1 false with
        | false => rfl
        | true => exact absurd (e ▸ List.mem_cons_self ..) ((I.isl q.1 (ok.lt q (I.mem_done hq))).1 hl).2
      | nil =>
        cases rest with
        | nil => simp at hn
        | cons p l =>
          have hp := I.mem_rest (p := p) (List.mem_cons_self ..)
          refine ⟨p, hp, ?_⟩
          cases hl : listed.getD p.1 false with
          | false => rfl
          | true =>
            obtain ⟨h1, _⟩ := (I.isl p.1 (ok.lt p hp)).1 hl
            obtain ⟨q, hq, e⟩ := List.mem_map.1 h1
            exact absurd e (I.disj ok hq (List.mem_cons_self ..))
    obtain ⟨i, hi0⟩ := ready_pick (ready_nonempty ok I.size hex) t
    have hi := List.mem_of_getElem? hi0
    rw [go_eq, hi0] at hacts ⊢
    dsimp only at hacts ⊢
    generalize hrl : (Region.ready .any ops listed).length = rl at hacts ⊢
    rw [wpOps_cons]
    obtain ⟨h1, h2, h3⟩ := mem_ready hi I.size
    have hedge : ∀ e ∈ edges (opAt ops i), e < ops.size := by
      intro e he
      obtain ⟨p, hp, rfl⟩ := List.mem_map.1 (ok.all i h1)
      obtain ⟨l, r, hcut⟩ := List.append_of_mem hp
      obtain ⟨q, hq, rfl⟩ := List.mem_map.1 (ok.topo l p r hcut e he)
      exact ok.lt q (by rw [hcut]; exact List.mem_append_left _ hq)
    have hready : ∀ j, j < ops.size → pr i j = true → listed.getD j false = true := by
      intro j hj hpr
      obtain ⟨e, he, h⟩ := ok.pr_ok i h1 j hj hpr
      rcases h with rfl | h
      · exact h3 e he
      · exact I.down e (hedge e he) (h3 e he) j hj h
    by_cases hip : i ∈ pend
    · obtain ⟨q, hq, e, hqf⟩ := I.pin i hip
      have hAi : A i = false := by rw [← e, hA q (I.mem_done hq), hqf]; rfl
      rw [List.filter_cons_of_neg (by simp [hAi])] at hacts
      refine I.catch ok hip hready fun a' I' => ih _ _ _ _ _ a' c w I' ?_ hacts
      rw [List.length_erase_of_mem hip]
      have : 0 < pend.length := List.length_pos_of_mem hip
      omega
    · have hir : i ∈ rest.map (·.1) := by
        have := ok.all i h1
        rw [I.cut, List.map_append, List.mem_append] at this
        refine this.resolve_left fun h => ?_
        rw [(I.isl i h1).2 ⟨h, hip⟩] at h2; cases h2
      obtain ⟨q, hq, rfl⟩ := List.mem_map.1 hir
      cases rest with
      | nil => cases hq
      | cons p l =>
        have hpf := hhead p l rfl
        by_cases hqf : q.2.1 = false
        · have hAq : A q.1 = true := by rw [hA q (I.mem_rest hq), hqf]; rfl
          rw [List.filter_cons_of_pos hAq, actsOf_cons_f hpf] at hacts
          obtain ⟨e1, e2⟩ := List.cons.inj hacts
          obtain rfl : q = p := uniq_of ok.nodup (I.mem_rest hq) (I.mem_rest (List.mem_cons_self ..)) e1
          refine I.step ok hpf hready fun a' c' w' I' => ih _ _ _ _ _ a' c' w' I' ?_ e2
          simp at hn; omega
        · exfalso
          have hqt : q.2.1 = true := by simpa using hqf
          rcases List.mem_cons.1 hq with rfl | hq'
          · exact hqf hpf
          obtain ⟨m, r, rfl⟩ := List.append_of_mem hq'
          obtain ⟨m1, k, m2, e, hk, _⟩ := last_acts m p hpf
          have hcut : plan = (done ++ m1) ++ k :: m2 ++ q :: r := by
            rw [I.cut]
            have : p :: (m ++ q :: r) = (p :: m) ++ q :: r := rfl
            rw [this, e]; simp
          obtain ⟨z, hz, hpr⟩ := ok.early (done ++ m1) k m2 q r hcut hk hqt
          obtain ⟨y, hy, rfl⟩ := List.mem_map.1 hz
          have hyr : y ∈ p :: (m ++ q :: r) := by
            have h5 : y ∈ p :: m := by rw [e]; exact List.mem_append_right _ hy
            rcases List.mem_cons.1 h5 with rfl | h5
            · exact List.mem_cons_self ..
            · exact List.mem_cons_of_mem _ (List.mem_append_left _ h5)
          have hyl : y.1 < ops.size := ok.lt y (I.mem_rest hyr)
          have hyt := hready y.1 hyl hpr
          obtain ⟨h5, _⟩ := (I.isl y.1 hyl).1 hyt
          obtain ⟨x, hx, e'⟩ := List.mem_map.1 h5
          exact I.disj ok hx hyr e'

theorem inv_start (_ok : PlanOk ops pr plan) (hfit : ∀ i, i < ops.size → ∀ d, (opAt ops i).dst = some d → d < a.tmps.size) (h : CR P ops G (plan.map (stp ops)) a w) :
    Inv P ops G pr plan [] plan [] (Array.replicate ops.size false) a a w := by
  refine ⟨rfl, by simp, fun i hi => ?_, fun r hr => (by cases hr), List.nodup_nil, fun i hi hl => ?_, rfl, fun _ _ => rfl, rfl, hfit, fun r hr => (by cases hr), h⟩
  · simp [Array.getD, hi]
  · simp [Array.getD, hi] at hl


/-! ### the orders in which what acts may come -/
theorem lin_unlisted : ∀ (fuel t : Nat) (listed : Array Bool), listed.size = ops.size → ∀ i ∈ Region.linearise.go .any ops fuel t listed [], i < ops.size ∧ listed.getD i false = false := by
  intro fuel
  induction fuel with
  | zero => intro t listed _ i hi; simp [Region.linearise.go] at hi
  | succ fuel ih =>
    intro t listed hs i hi
    rw [go_eq] at hi
    split at hi
    · rename_i x hx
      obtain ⟨h1, h2, _⟩ := mem_ready (List.mem_of_getElem? hx) hs
      rcases List.mem_cons.1 hi with rfl | hi
      · exact ⟨h1, h2⟩
      · obtain ⟨h3, h4⟩ := ih _ _ (by simp [hs]) i hi
        rw [getD_set _ _ _ (by rw [hs]; exact h1)] at h4
        split at h4
        · cases h4
        · exact ⟨h3, h4⟩
    · cases hi

theorem lin_order (ok : PlanOk ops pr plan) : ∀ (fuel t : Nat) (listed : Array Bool), listed.size = ops.size → (∀ i, i < ops.size → listed.getD i false = true → ∀ j, j < ops.size → pr i j = true → listed.getD j false = true) →
    (Region.linearise.go .any ops fuel t listed []).Pairwise (fun i j => pr i j = false) ∧ (Region.linearise.go .any ops fuel t listed []).Nodup := by
  intro fuel
  induction fuel with
  | zero => intro t listed _ _; simp [Region.linearise.go]
  | succ fuel ih =>
    intro t listed hs hdown
    rw [go_eq]
    split
    · rename_i x hx
      obtain ⟨h1, h2, h3⟩ := mem_ready (List.mem_of_getElem? hx) hs
      have hready : ∀ j, j < ops.size → pr x j = true → listed.getD j false = true := by
        intro j hj hpr
        obtain ⟨e, he, h⟩ := ok.pr_ok x h1 j hj hpr
        rcases h with rfl | h
        · exact h3 e he
        · have : e < ops.size := by
            obtain ⟨p, hp, rfl⟩ := List.mem_map.1 (ok.all x h1)
            obtain ⟨l, r, hcut⟩ := List.append_of_mem hp
            obtain ⟨q, hq, rfl⟩ := List.mem_map.1 (ok.topo l p r hcut e he)
            exact ok.lt q (by rw [hcut]; exact List.mem_append_left _ hq)
          exact hdown e this (h3 e he) j hj h
      have hun := lin_unlisted (ops := ops) fuel (t / (Region.ready .any ops listed).length) (listed.setIfInBounds x true) (by simp [hs])
      obtain ⟨h4, h5⟩ := ih (t / (Region.ready .any ops listed).length) (listed.setIfInBounds x true) (by simp [hs]) (fun i hi hl j hj hpr => by
        rw [getD_set _ _ _ (by rw [hs]; exact h1)] at hl ⊢
        by_cases hxj : x = j
        · rw [if_pos hxj]
        · rw [if_neg hxj]
          by_cases hxi : x = i
          · subst hxi; exact hready j hj hpr
          · rw [if_neg hxi] at hl; exact hdown i hi hl j hj hpr)
      refine ⟨List.pairwise_cons.2 ⟨fun j hj => ?_, h4⟩, List.nodup_cons.2 ⟨fun hx' => ?_, h5⟩⟩
      · obtain ⟨h6, h7⟩ := hun j hj
        rw [getD_set _ _ _ (by rw [hs]; exact h1)] at h7
        split at h7
        · cases h7
        · cases hp : pr x j with
          | false => rfl
          | true => rw [hready j h6 hp] at h7; cases h7
      · obtain ⟨h6, h7⟩ := hun x hx'
        rw [getD_set _ _ _ (by rw [hs]; exact h1), if_pos rfl] at h7; cases h7
    · exact ⟨.nil, List.nodup_nil⟩

theorem lin_all (ok : PlanOk ops pr plan) : ∀ (fuel t : Nat) (listed : Array Bool), listed.size = ops.size → (plan.filter fun p => !listed.getD p.1 false).length ≤ fuel → ∀ i, i < ops.size → listed.getD i false = false →
    i ∈ Region.linearise.go .any ops fuel t listed [] := by
  intro fuel
  induction fuel with
  | zero =>
    intro t listed hs hn i hi hl
    exfalso
    obtain ⟨p, hp, rfl⟩ := List.mem_map.1 (ok.all i hi)
    have : p ∈ plan.filter fun p => !listed.getD p.1 false := List.mem_filter.2 ⟨hp, by simp [hl]⟩
    have := List.length_pos_of_mem this
    omega
  | succ fuel ih =>
    intro t listed hs hn i hi hl
    obtain ⟨p, hp, rfl⟩ := List.mem_map.1 (ok.all i hi)
    obtain ⟨x, hx⟩ := ready_pick (ready_nonempty (listed := listed) ok hs ⟨p, hp, hl⟩) t
    obtain ⟨h1, h2, _⟩ := mem_ready (List.mem_of_getElem? hx) hs
    rw [go_eq, hx]
    by_cases e : x = p.1
    · rw [e]; exact List.mem_cons_self ..
    · refine List.mem_cons_of_mem _ (ih _ _ (by simp [hs]) ?_ p.1 hi ?_)
      · have hsub : (plan.filter fun p => !(listed.setIfInBounds x true).getD p.1 false) = ((plan.filter fun p => !listed.getD p.1 false).filter fun p => !decide (x = p.1)) := by
          rw [List.filter_filter]
          apply List.filter_congr
          intro q _
          rw [getD_set _ _ _ (by rw [hs]; exact h1)]
          by_cases e' : x = q.1 <;> simp [e']
        rw [hsub]
        obtain ⟨y, hy, rfl⟩ := List.mem_map.1 (ok.all x h1)
        have : ((plan.filter fun p => !listed.getD p.1 false).filter fun p => !decide (y.1 = p.1)).length < (plan.filter fun p => !listed.getD p.1 false).length :=
          List.length_filter_lt_length_iff_exists.2 ⟨y, List.mem_filter.2 ⟨hy, by simp [h2]⟩, by simp⟩
        omega
      · rw [getD_set _ _ _ (by rw [hs]; exact h1), if_neg e]; exact hl

/-- All orders of some numbers that keep what must stand ahead ahead. -/
def lins (pr : Nat → Nat → Bool) : Nat → List Nat → List (List Nat)
  | 0, _ => [[]]
  | n + 1, rem => match rem with
    | [] => [[]]
    | _ => rem.flatMap fun i => if rem.all fun j => j == i || !pr i j then (lins pr n (rem.erase i)).map (i :: ·) else []
theorem mem_lins : ∀ (n : Nat) (rem l : List Nat), l.Nodup → rem.Nodup → (∀ x, x ∈ l ↔ x ∈ rem) → rem.length ≤ n → l.Pairwise (fun i j => pr i j = false) → l ∈ lins pr n rem := by
  intro n
  induction n with
  | zero =>
    intro rem l _ _ hm hn _
    obtain rfl : rem = [] := List.length_eq_zero_iff.1 (by omega)
    have : l = [] := List.eq_nil_iff_forall_not_mem.2 fun x hx => by have := (hm x).1 hx; cases this
    simp [lins, this]
  | succ n ih =>
    intro rem l hl hr hm hn hp
    cases l with
    | nil =>
      have : rem = [] := List.eq_nil_iff_forall_not_mem.2 fun x hx => by have := (hm x).2 hx; cases this
      subst this
      simp [lins]
    | cons i l =>
      have hi : i ∈ rem := (hm i).1 (List.mem_cons_self ..)
      have hne : rem ≠ [] := List.ne_nil_of_mem hi
      obtain ⟨h1, h2⟩ := List.nodup_cons.1 hl
      obtain ⟨h3, h4⟩ := List.pairwise_cons.1 hp
      have : l ∈ lins pr n (rem.erase i) := by
        refine ih _ _ h2 (hr.erase _) (fun x => ?_) ?_ h4
        · rw [List.Nodup.mem_erase_iff hr, ← hm x, List.mem_cons]
          constructor
          · exact fun h => ⟨fun e => h1 (e ▸ h), .inr h⟩
          · exact fun ⟨h, h'⟩ => h'.resolve_left h
        · rw [List.length_erase_of_mem hi]; omega
      unfold lins
      cases rem with
      | nil => exact absurd rfl hne
      | cons y ys =>
        dsimp only
        refine List.mem_flatMap.2 ⟨i, hi, ?_⟩
        rw [if_pos (List.all_eq_true.2 fun j hj => ?_)]
        · exact List.mem_map.2 ⟨l, this, rfl⟩
        · rcases List.mem_cons.1 ((hm j).2 hj) with rfl | hj'
          · simp
          · simp [h3 j hj']

theorem wpOps_of_plans {plans : List (List Pl)} {acts : List Nat} (hne : plans ≠ []) (ok : ∀ p ∈ plans, PlanOk ops pr p) (hlen : ∀ p ∈ plans, p.length = ops.size) (hfl : ∀ p ∈ plans, ∀ x ∈ p, acts.contains x.1 = !x.2.1) (hacts : acts.Nodup) (hal : ∀ i ∈ acts, i < ops.size)
    (hcov : ∀ l ∈ lins pr acts.length acts, ∃ p ∈ plans, actsOf p = l) (hfit : ∀ i, i < ops.size → ∀ d, (opAt ops i).dst = some d → d < a.tmps.size) (h : ∀ p ∈ plans, CR P ops G (p.map (stp ops)) a w) (t : Nat) :
    wpOps P ops (QG G) (Region.linearise .any ops t) a w := by
  obtain ⟨p0, hp0⟩ := List.exists_mem_of_ne_nil _ hne
  have hsz : (Array.replicate ops.size false).size = ops.size := by simp
  obtain ⟨ho, hnd⟩ := lin_order (ok p0 hp0) ops.size t (Array.replicate ops.size false) hsz (fun i hi hl => by simp [Array.getD, hi] at hl)
  have hall : ∀ i, i < ops.size → i ∈ Region.linearise.go .any ops ops.size t (Array.replicate ops.size false) [] := fun i hi =>
    lin_all (ok p0 hp0) ops.size t _ hsz (Nat.le_trans (List.length_filter_le ..) (by rw [hlen p0 hp0]; exact Nat.le_refl _)) i hi (by simp [Array.getD, hi])
  have hmem := hcov ((Region.linearise.go .any ops ops.size t (Array.replicate ops.size false) []).filter acts.contains) (mem_lins _ _ _ (hnd.filter _) hacts (fun x => by
    rw [List.mem_filter]
    constructor
    · exact fun hx => by simpa using hx.2
    · exact fun hx => ⟨hall x (hal x hx), by simpa using hx⟩) (Nat.le_refl _) (ho.filter _))
  obtain ⟨p, hp, he⟩ := hmem
  exact wpOps_of_inv (ok p hp) acts.contains (fun x hx => hfl p hp x hx) ops.size t [] p [] _ a a w (inv_start (ok p hp) hfit (h p hp)) (by simp [hlen p hp]) he.symm
end
end Go.Proofs.YtaeefjcbmkiiaaaGreatDoor.Sl
