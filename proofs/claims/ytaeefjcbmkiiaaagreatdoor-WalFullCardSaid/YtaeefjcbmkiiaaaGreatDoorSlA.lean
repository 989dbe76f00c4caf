/- Maps ranged over; structs built; calls under short names; lists of memory put in order. -/
import Derived.Test.YtaeefjcbmkiiaaaGreatDoorSl9
namespace Go.Proofs.YtaeefjcbmkiiaaaGreatDoor.Sl
open Go Go.RowKit
section
variable {c : Ctx} {k : List Item} {st : St} {Γ : List Assn} {d : Option Tmp} {ty : TypeId} {pos : String} {af : Array Edge} {g : Option (Nat × Bool)} {ops : Array Oper} {rs : List Oper} {l : List Stp} {fl : Bool}
variable {x y z : Operand} {T U : TypeId} {κ α : Type} [iκ : DecidableEq κ] {M : MapT κ α} {m b : Nat} {L left : List (κ × α)} {Γ' : List Assn} {cur : Option (κ × α)}

theorem nodup_filter_push {es : List MapEntry} {seen : Array Nat} {e : MapEntry} (hn : (es.map (·.born)).Nodup) {j : Nat} (hj : (es.filter fun e => !seen.contains e.born)[j]? = some e) :
    (es.filter fun e' => !(seen.push e.born).contains e'.born) = (es.filter fun e => !seen.contains e.born).eraseIdx j := by
  have h1 : (es.filter fun e' => !(seen.push e.born).contains e'.born) = (es.filter fun e => !seen.contains e.born).filter fun e' => !decide (e'.born = e.born) := by
    rw [List.filter_filter]
    apply List.filter_congr
    intro x _
    have : (seen.push e.born).contains x.born = (seen.contains x.born || decide (x.born = e.born)) := by
      rw [Bool.eq_iff_iff]; simp [Array.mem_push]
    rw [this]
    cases seen.contains x.born <;> simp
  rw [h1]
  have hn' : ((es.filter fun e => !seen.contains e.born).map (·.born)).Nodup := hn.sublist (List.filter_sublist.map _)
  generalize (es.filter fun e => !seen.contains e.born) = F at hj hn'
  clear h1 hn
  induction F generalizing j with
  | nil => simp at hj
  | cons y F ih =>
    simp only [List.map_cons, List.nodup_cons] at hn'
    cases j with
    | zero =>
      simp only [List.getElem?_cons_zero, Option.some.injEq] at hj
      subst hj
      simp only [List.filter_cons, decide_true, Bool.not_true, Bool.false_eq_true, if_false, List.eraseIdx_cons_zero]
      apply List.filter_eq_self.2
      intro x hx
      have : x.born ≠ y.born := fun h => hn'.1 (List.mem_map.2 ⟨x, hx, h⟩)
      simp [this]
    | succ j =>
      simp only [List.getElem?_cons_succ] at hj
      have hne : y.born ≠ e.born := fun h => hn'.1 (List.mem_map.2 ⟨e, List.mem_of_getElem? hj, h.symm⟩)
      simp only [List.filter_cons, hne, decide_false, Bool.not_false, if_true, List.eraseIdx_cons_succ]
      rw [ih hj hn'.2]

/-- The next one of a map, in whatever order. -/
theorem nxt (hv : ev st x = some (.pointer (some ⟨b, 0, none⟩))) [hs : SelI Γ b M m L left cur Γ'] (h0 : left = [] → JS c ops rs l k (stput d (.tuple #[.bool false]) st) (mpi M m b L left cur :: Γ'))
    (h1 : ∀ p l1 l2, left = l1 ++ p :: l2 → JS c ops rs l k (stput d (.tuple #[.bool true, M.key p.1, M.val p.2]) st) (mpi M m b L (l1 ++ l2) (some p) :: Γ')) (hg : gOk ops st ⟨d, .next x false, ty, pos, af, g⟩ = some true := by rfl) (hd : dOk d c.n = true := by rfl) :
    JR c ops (⟨⟨d, .next x false, ty, pos, af, g⟩, false, rs⟩ :: l) k st Γ := by
  intro bf cs a w g1 g2 g3 g4
  unfold CR
  simp only [gOk_wanted hg g3, if_true, Bool.false_eq_true, if_false]
  obtain ⟨es, clock, seen, hne, hi, hl, hc, hS⟩ := mpi_open (g4.perm hs.h.perm)
  have hgb := run_getObj (P := c.P) (hS.blk .here).2 (by simp)
  have hgm := run_getObj (P := c.P) (hS.tail.blk .here).2 (by simp)
  have hset := fun o' => run_setObj (P := c.P) (o' := o') (hS.blk .here).2 (by simp)
  have hbad : (!seen.isEmpty && !es.isEmpty && es.all (fun (e : MapEntry) => decide (e.born ≥ clock))) = false := by
    cases hes : es.toList with
    | nil =>
      have : es = #[] := by rw [← Array.toList_inj, hes]
      simp [this]
    | cons e r =>
      have he : e ∈ es.toList := by rw [hes]; exact List.mem_cons_self ..
      have hlt := hi.lt e he
      have : es.all (fun (e : MapEntry) => decide (e.born ≥ clock)) = false := by
        rw [Bool.eq_false_iff]
        intro hall
        have := Array.all_eq_true'.1 hall e (by simpa using he)
        simp at this; omega
      rw [this, Bool.and_false]
  have hleft : (es.filter fun (e : MapEntry) => !seen.contains e.born).toList = es.toList.filter fun (e : MapEntry) => !seen.contains e.born := by simp
  have hold : (es.filter fun (e : MapEntry) => !seen.contains e.born).filter (fun (e : MapEntry) => decide (e.born < clock)) = es.filter fun (e : MapEntry) => !seen.contains e.born := by
    rw [← Array.toList_inj, Array.toList_filter, hleft]
    apply List.filter_eq_self.2
    intro e he
    simpa using hi.lt e (List.mem_filter.1 he).1
  have hnew : (es.filter fun (e : MapEntry) => !seen.contains e.born).filter (fun (e : MapEntry) => decide (e.born ≥ clock)) = #[] := by
    rw [← Array.toList_inj, Array.toList_filter, hleft]
    apply List.filter_eq_nil_iff.2
    intro e he
    have := hi.lt e (List.mem_filter.1 he).1
    simp; omega
  cases left with
  | nil =>
    have he : (es.filter fun (e : MapEntry) => !seen.contains e.born) = #[] := by
      rw [← Array.toList_inj, hleft]
      simpa using hl
    have hr : (execOp a.eval ⟨d, .next x false, ty, pos, af, g⟩).run c.P w = .ok (.value (.tuple #[.bool false])) w := by
      simp only [execOp, ev_eval g3 hv, Instr.next, Sem.run_bind, hgb, Result.andThen_ok, hgm, hbad, Bool.false_eq_true, if_false, hold, hnew, he]
      simp [Question.forced]
    rw [hr]
    exact JS_of (h0 rfl) g1 g2 (g3.put hd _) (mpi_close hS hi hl hc)
  | cons p0 left' =>
    have hlen : (es.filter fun (e : MapEntry) => !seen.contains e.born).size = left'.length + 1 := by
      have := congrArg List.length hl
      simp only [List.length_map, List.length_cons] at this
      rw [← this, ← hleft, Array.length_toList]
    have hne0 : (es.filter fun (e : MapEntry) => !seen.contains e.born).isEmpty = false := by
      rw [Array.isEmpty_eq_false_iff]; intro h; rw [h] at hlen; simp at hlen
    -- which one
    obtain ⟨j, w1, hj, hch, hw1, hw2, hw3, hw4⟩ : ∃ j w1, j < left'.length + 1 ∧ (choose (.mapNext (left'.length + 1))).run c.P w = .ok j w1 ∧ w1.heap = w.heap ∧ w1.os = w.os ∧ w1.tape = w.tape ∧ w1.output = w.output := by
      rw [run_choose]
      by_cases hf : (Question.mapNext (left'.length + 1)).forced = true
      · rw [if_pos hf]; exact ⟨0, w, by omega, rfl, rfl, rfl, rfl, rfl⟩
      · rw [if_neg hf]; exact ⟨_, _, Nat.mod_lt _ (by omega), rfl, rfl, rfl, rfl, rfl⟩
    have hjl : j < (es.toList.filter fun (e : MapEntry) => !seen.contains e.born).length := by rw [← hleft]; simp only [Array.length_toList]; rw [hlen]; exact hj
    obtain ⟨e, he⟩ : ∃ e, (es.toList.filter fun (e : MapEntry) => !seen.contains e.born)[j]? = some e := ⟨_, List.getElem?_eq_getElem hjl⟩
    have hmem := List.mem_filter.1 (List.mem_of_getElem? he)
    obtain ⟨p, hp⟩ : ∃ p, (p0 :: left')[j]? = some p := ⟨_, List.getElem?_eq_getElem (by simpa using hj)⟩
    have hkv : ekv e = mkv M p := by
      have := congrArg (fun l => l[j]?) hl
      simp only [List.getElem?_map, he, hp, Option.map_some, Option.some.injEq] at this
      exact this
    have hr : (execOp a.eval ⟨d, .next x false, ty, pos, af, g⟩).run c.P w = .ok (.value (.tuple #[.bool true, M.key p.1, M.val p.2])) { w1 with heap := w1.heap.setIfInBounds b (.mapIter (some m) clock (seen.push e.born) clock) } := by
      have hset1 := run_setObj (P := c.P) (w := w1) (r := b) (o := .mapIter (some m) clock seen clock) (o' := .mapIter (some m) clock (seen.push e.born) clock) (by rw [hw1]; exact (hS.blk .here).2) (by simp)
      have hszF : ∀ Fl : Array MapEntry, Fl.size = left'.length + 1 → ((#[] : Array (Option MapEntry)) ++ (Fl ++ #[]).map some).size = left'.length + 1 := fun Fl h => by simp [h]
      have hgetF : ∀ Fl : Array MapEntry, Fl[j]? = some e → ((#[] : Array (Option MapEntry)) ++ (Fl ++ #[]).map some)[j]? = some (some e) := fun Fl h => by simp [h]
      have hsz := hszF _ hlen
      have hget := hgetF (es.filter fun (e : MapEntry) => !seen.contains e.born) (by rw [← Array.getElem?_toList, hleft]; exact he)
      simp only [execOp, ev_eval g3 hv, Instr.next, Sem.run_bind, hgb, Result.andThen_ok, hgm, hbad, Bool.false_eq_true, if_false, hold, hnew, hne0, hsz, hch, hget, hset1, Sem.run_pure]
      have h1 : e.key = M.key p.1 := congrArg Prod.fst hkv
      have h2 : e.val = M.val p.2 := congrArg Prod.snd hkv
      rw [h1, h2]
    rw [hr]
    have hsplit : p0 :: left' = (p0 :: left').take j ++ p :: (p0 :: left').drop (j + 1) := by
      have hlt : j < (p0 :: left').length := by simpa using hj
      rw [List.getElem?_eq_getElem hlt] at hp
      cases hp
      rw [List.getElem_cons_drop, List.take_append_drop]
    refine JS_of (h1 p _ _ hsplit) g1 g2 (g3.put hd _) (mpi_close (hS.write (by rw [hw1]) hw2 hw3 hw4) hi ?_ ?_)
    · rw [nodup_filter_push hi.nd he, map_eraseIdx', hl, ← map_eraseIdx', List.eraseIdx_eq_take_drop_succ]
    · exact ⟨e, hmem.1, by simp, hkv⟩
theorem ent {p : κ × α} (hv : ev st x = some (.pointer (some ⟨b, 0, none⟩))) [hs : SelI Γ b M m L left (some p) Γ'] (h : JR c ops l k (stput d (.tuple #[M.key p.1, M.val p.2]) st) Γ) (hg : gOk ops st ⟨d, .entry x, ty, pos, af, g⟩ = some true := by rfl) (hd : dOk d c.n = true := by rfl) :
    JR c ops (⟨⟨d, .entry x, ty, pos, af, g⟩, fl, []⟩ :: l) k st Γ :=
  ro h (fun a w ha hS0 => by
    obtain ⟨es, clock, seen, hne, hi, hl, ⟨e, he, hb, hkv⟩, hS⟩ := mpi_open (hS0.perm hs.h.perm)
    have hgb := run_getObj (P := c.P) (hS.blk .here).2 (by simp)
    have hgm := run_getObj (P := c.P) (hS.tail.blk .here).2 (by simp)
    have hfind : es.find? (fun e' => e'.born == e.born) = some e := by
      rw [← Array.find?_toList]
      obtain ⟨l1, l2, h2⟩ := List.append_of_mem he
      have hnd := hi.nd
      rw [h2, List.map_append, List.nodup_append] at hnd
      rw [h2, List.find?_append]
      have : l1.find? (fun e' => e'.born == e.born) = none := by
        rw [List.find?_eq_none]
        intro y hy hye
        simp at hye
        exact hnd.2.2 y.born (List.mem_map.2 ⟨y, hy, rfl⟩) e.born (by simp) hye
      rw [this]; simp
    have h1 : e.key = M.key p.1 := congrArg Prod.fst hkv
    have h2 : e.val = M.val p.2 := congrArg Prod.snd hkv
    simp [execOp, ev_eval ha hv, Instr.entry, hgb, hgm, hb, hfind, h1, h2]) hg hd
end

/-! ### structs built -/
/-- The cells of a value. -/
inductive CellsIs : Value → List Value → Prop
  | agg {l : List Value} : CellsIs (.agg ⟨l⟩) l
  | int {k : IntKind} {n : Int} : CellsIs (.int k n) [.int k n]
  | bool {b : Bool} : CellsIs (.bool b) [.bool b]
  | str {s : ByteArray} : CellsIs (.string s) [.string s]
  | ptr {p : Option Addr} : CellsIs (.pointer p) [.pointer p]
  | slice {p : Option Addr} {n m : Nat} : CellsIs (.slice p n m) [.slice p n m]
  | map {p : Option Nat} : CellsIs (.map p) [.map p]
theorem CellsIs.eq {u : Value} {cs : List Value} (h : CellsIs u cs) : u.cells = ⟨cs⟩ := by cases h <;> rfl
inductive FillS (st : St) (pl : List (Nat × Nat)) : List Value → List (Nat × Operand) → List Value → Prop
  | nil {z : List Value} : FillS st pl z [] z
  | cons {z z' z'' : List Value} {i off n : Nat} {x : Operand} {u : Value} {cs : List Value} {r : List (Nat × Operand)} : ev st x = some u → pl[i]? = some (off, n) → CellsIs u cs → cs.length = n → PutN z off cs z' → FillS st pl z' r z'' → FillS st pl z ((i, x) :: r) z''
section
variable {c : Ctx} {k : List Item} {st : St} {Γ : List Assn} {d : Option Tmp} {ty : TypeId} {pos : String} {af : Array Edge} {g : Option (Nat × Bool)} {ops : Array Oper} {rs : List Oper} {l : List Stp} {fl : Bool}
variable {x y z : Operand} {T U : TypeId}
theorem putN_eq {l cs l' : List Value} {o : Nat} (h : PutN l o cs l') : l' = l.take o ++ cs ++ l.drop (o + cs.length) := by
  induction h with
  | nil => simp
  | put _ ih => simp at ih ⊢; rw [ih]
  | @skip x v l vs l' n _ ih =>
    rw [ih, show n + 1 + (v :: vs).length = n + (v :: vs).length + 1 by omega]
    simp
theorem fill_of {n : Nat} {a : Act} (ha : Agree n st a) {pl : List (Nat × Nat)} (place : Nat → Option (Nat × Nat)) (hpl : ∀ i, place i = pl[i]?) {zl r zl'} (h : FillS st pl zl r zl') : Instr.fill place ⟨zl⟩ (r.map fun p => (p.1, a.eval p.2)) = some ⟨zl'⟩ := by
  induction h with
  | nil => rfl
  | @cons zl z' z'' i off n x u cs r h1 h2 h3 h4 h5 _ ih =>
    have hg := h5.get
    have h3 := h3.eq
    simp only [List.map_cons, Instr.fill, hpl, h2, ev_eval ha h1, h3]
    have hcz : (⟨cs⟩ : Array Value).size = n := h4
    rw [if_neg (by simp [hcz]; omega)]
    have hf := foldl_put cs 0 off ⟨zl⟩ (by simp; omega)
    have hz : (⟨cs⟩ : Array Value).zipIdx.foldl (fun (a : Array Value) (p : Value × Nat) => a.setIfInBounds (off + p.2) p.1) ⟨zl⟩ = ⟨z'⟩ := by
      rw [← Array.foldl_toList, ← Array.toList_inj, show (⟨cs⟩ : Array Value).zipIdx.toList = cs.zipIdx from Array.toList_zipIdx .., hf, putN_eq h5]
      simp
    rw [show (fun cs (x : Value × Nat) => match x with | (c, j) => cs.setIfInBounds (off + j) c) = fun (a : Array Value) (p : Value × Nat) => a.setIfInBounds (off + p.2) p.1 from rfl, hz]
    exact ih
theorem bld {parts : List (Nat × Operand)} {pl : List (Nat × Nat)} {zv : Value} {zl zl' : List Value} [ht : TPlaces c.P T pl] [hZ : TZero c.P T zv] (h : JR c ops l k (stput d (.agg ⟨zl'⟩) st) Γ) (hz0 : zv = .agg ⟨zl⟩ := by rfl)
    (hp : FillS st pl zl parts zl' := by (repeat (first | exact FillS.nil | (apply FillS.cons; rfl; rfl; constructor; rfl; (focus repeat constructor))))) (hg : gOk ops st ⟨d, .build T ⟨parts⟩, ty, pos, af, g⟩ = some true := by rfl) (hd : dOk d c.n = true := by rfl) :
    JR c ops (⟨⟨d, .build T ⟨parts⟩, ty, pos, af, g⟩, fl, []⟩ :: l) k st Γ :=
  ro h (fun a w ha hS => by
    have hz : zv.cells = ⟨zl⟩ := by rw [hz0]; rfl
    obtain ⟨fs, h1, h2, h3⟩ := ht.h
    have hm : (fs.mapM fun f => do pure (f.offset, ← sizeOf f.type) : Sem (Array (Nat × Nat))).run c.P w = .ok ⟨pl⟩ w := by
      have key : ∀ (l : List Field), l.all (fun f => (szOf c.P f.type).isSome) = true → (l.mapM fun f => do pure (f.offset, ← sizeOf f.type) : Sem (List (Nat × Nat))).run c.P w = .ok (l.map fun f => (f.offset, (szOf c.P f.type).getD 0)) w := by
        intro l
        induction l with
        | nil => intro _; rfl
        | cons f l ih =>
          intro hl
          simp only [List.all_cons, Bool.and_eq_true] at hl
          obtain ⟨s, hs⟩ := Option.isSome_iff_exists.1 hl.1
          rw [List.mapM_cons, Sem.run_bind]
          simp only [Sem.run_bind, run_sizeOf hs, Result.andThen_ok, Sem.run_pure, ih hl.2, List.map_cons, hs, Option.getD_some]
      obtain ⟨fl⟩ := fs
      rw [show (⟨fl⟩ : Array Field) = fl.toArray from rfl, List.mapM_toArray, Sem.run_map, key fl h3]
      simp only [Result.andThen_ok]
      rw [← h2]
    have hmap : (((⟨parts⟩ : Array (Nat × Operand)).map fun (p : Nat × Operand) => (p.1, a.eval p.2)).toList) = parts.map fun p => (p.1, a.eval p.2) := by simp
    simp only [execOp, Instr.build, Sem.run_bind, run_zeroValue hZ.z, Result.andThen_ok, run_underlying h1, hm, hz]
    rw [show ((⟨parts⟩ : Array (Nat × Operand)).map fun x => match x with | (i, x) => (i, a.eval x)).toList = parts.map fun p => (p.1, a.eval p.2) from hmap, fill_of ha (fun i => (⟨pl⟩ : Array (Nat × Nat))[i]?) (fun i => by simp) hp]
    rfl) hg hd

/-! ### calls -/
/-- A call by its contract, of a function by its name. -/
theorem cl {xs : List Operand} {ats : Array TypeId} {f : FuncId} {vs : List Value} {Pre R : List Assn} {Q : Value → List Assn → Prop} [IsFn c.P f] (ht : Tr c.P f vs Pre Q) (h : ∀ v Γ', Q v Γ' → JS c ops rs l k (stput d v st) (Γ' ++ R))
    (hvs : Evs st xs vs := by (repeat (first | exact Evs.nil | refine Evs.cons rfl ?_))) (hs : Split Γ Pre R := by (repeat constructor)) (hg : gOk ops st ⟨d, .call ⟨.value (.func f), ⟨xs⟩, ats⟩, ty, pos, af, g⟩ = some true := by rfl) (hd : dOk d c.n = true := by rfl) :
    JR c ops (⟨⟨d, .call ⟨.value (.func f), ⟨xs⟩, ats⟩, ty, pos, af, g⟩, false, rs⟩ :: l) k st Γ :=
  JR_call (f := f) (first := #[]) (captured := #[]) hg hd rfl hvs (by simpa using ht) hs h
/-- .. of a function value. -/
theorem clv {xs : List Operand} {ats : Array TypeId} {f : FuncId} {first captured : Array Value} {vs : List Value} {Pre R : List Assn} {Q : Value → List Assn → Prop} [IsFn c.P f] (hx : ev st x = some (.func (.func f) first captured)) (ht : Tr c.P f (first.toList ++ vs ++ captured.toList) Pre Q) (h : ∀ v Γ', Q v Γ' → JS c ops rs l k (stput d v st) (Γ' ++ R))
    (hvs : Evs st xs vs := by (repeat (first | exact Evs.nil | refine Evs.cons rfl ?_))) (hs : Split Γ Pre R := by (repeat constructor)) (hg : gOk ops st ⟨d, .call ⟨.value x, ⟨xs⟩, ats⟩, ty, pos, af, g⟩ = some true := by rfl) (hd : dOk d c.n = true := by rfl) :
    JR c ops (⟨⟨d, .call ⟨.value x, ⟨xs⟩, ats⟩, ty, pos, af, g⟩, false, rs⟩ :: l) k st Γ :=
  JR_call hg hd hx hvs ht hs h
/-- A list of memory, spelled out. -/
theorem n0 {R : List Assn} (h : JS c ops rs l k st R) : JS c ops rs l k st ([] ++ R) := h
theorem n1 {A : Assn} {R : List Assn} (h : JS c ops rs l k st (A :: R)) : JS c ops rs l k st ([A] ++ R) := h
theorem n2 {A B : Assn} {R : List Assn} (h : JS c ops rs l k st (A :: B :: R)) : JS c ops rs l k st ([A, B] ++ R) := h
theorem n3 {A B C : Assn} {R : List Assn} (h : JS c ops rs l k st (A :: B :: C :: R)) : JS c ops rs l k st ([A, B, C] ++ R) := h
theorem n4 {A B C D : Assn} {R : List Assn} (h : JS c ops rs l k st (A :: B :: C :: D :: R)) : JS c ops rs l k st ([A, B, C, D] ++ R) := h
/-- The return, what is said of it and of memory to be shown. -/
theorem rt {rv : List ResultVar} {vs : List Value} (h : ∃ Γ', c.Q (tupleOf vs) Γ' ∧ ∃ R, Split Γ Γ' R) (hr : c.fn.results = ⟨rv⟩ := by rfl) (hl : ResL c.P st (Sat c.B c.F Γ) rv vs := by (repeat constructor)) : J c (.code .ret :: k) st Γ :=
  let ⟨_, hQ, _, hs⟩ := h; J_ret hr hl hQ hs
theorem rte {rv : List ResultVar} {vs : List Value} (h : ∃ Γ', c.Q (tupleOf vs) Γ' ∧ ∃ R, Split Γ Γ' R) (hr : c.fn.results = ⟨rv⟩ := by rfl) (hl : ResL c.P st (Sat c.B c.F Γ) rv vs := by (repeat constructor)) : J c [] st Γ :=
  let ⟨_, hQ, _, hs⟩ := h; J_end hr hl hQ hs
/-- A result that lies in memory. -/
theorem ResL.agg {P : Program} {B : World} {F : Assn} {t T b o n : Nat} {cl us : List Value} {E : TypeId} {fz : Nat × Nat} {rv : List ResultVar} {vs : List Value} [ht : TAgg P T n] (hl : look st t = some (.pointer (some ⟨b, o, none⟩))) [hg : InG Γ b (.cells ⟨cl⟩ E fz)] (hn : GetN cl o n us) (hr : ResL P st (Sat B F Γ) rv vs) :
    ResL P st (Sat B F Γ) (.cell t T :: rv) (.agg ⟨us⟩ :: vs) := by
  refine .cell hl (fun w hS => ?_) hr
  obtain ⟨_, hs⟩ := hg.h
  obtain ⟨h1, h2⟩ := hn.get
  exact run_loadVar_agg ht.a ht.s h1 fun i hi => by
    have hi' : i < us.length := by omega
    rw [List.getElem?_eq_getElem hi']
    exact cell_of (hS.blk hs).2 (by rw [h2 i hi, List.getElem?_eq_getElem hi'])
end
end Go.Proofs.YtaeefjcbmkiiaaaGreatDoor.Sl
