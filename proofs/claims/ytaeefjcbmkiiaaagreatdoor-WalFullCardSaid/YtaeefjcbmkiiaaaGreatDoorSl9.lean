/- Maps that the walk owns: looked up, written, deleted from, counted, ranged over. -/
import Derived.Test.YtaeefjcbmkiiaaaGreatDoorSl8
namespace Go.Proofs.YtaeefjcbmkiiaaaGreatDoor.Sl
open Go Go.RowKit

/-- How a map's keys and values are told. -/
structure MapT (κ α : Type) [DecidableEq κ] where
  key : κ → Value
  val : α → Value
  fits : TypeDesc → Bool
  same : ∀ D a b, fits D = true → Instr.sameNow D (key a) (key b) = some (decide (a = b))
  plain : ∀ D, fits D = true → (match D with | .interface _ | .array _ _ | .struct _ => false | _ => true) = true
  bits : ∀ n a, Instr.sameBits n (key a) (key a) = true
section
variable {κ α : Type} [DecidableEq κ]
def assoc : List (κ × α) → κ → Option α
  | [], _ => none
  | (k', x) :: l, k => if k = k' then some x else assoc l k
def aidx : List (κ × α) → κ → Option Nat
  | [], _ => none
  | (k', _) :: l, k => if k = k' then some 0 else (aidx l k).map (· + 1)
def aput : List (κ × α) → κ → α → List (κ × α)
  | [], k, x => [(k, x)]
  | (k', y) :: l, k, x => if k = k' then (k, x) :: l else (k', y) :: aput l k x
def adel : List (κ × α) → κ → List (κ × α)
  | [], _ => []
  | (k', y) :: l, k => if k = k' then l else (k', y) :: adel l k

variable {M : MapT κ α}
def ekv (e : MapEntry) : Value × Value := (e.key, e.val)
def mkv (M : MapT κ α) (p : κ × α) : Value × Value := (M.key p.1, M.val p.2)
structure MapIs (M : MapT κ α) (es : Array MapEntry) (clock : Nat) (l : List (κ × α)) : Prop where
  kv : es.toList.map ekv = l.map (mkv M)
  nd : (es.toList.map (·.born)).Nodup
  lt : ∀ e ∈ es.toList, e.born < clock

theorem findNow_some {D : TypeDesc} (hD : M.fits D = true) (k : κ) : ∀ (es : List MapEntry) (l : List (κ × α)) (i : Nat), es.map ekv = l.map (mkv M) →
    Instr.findNow D (M.key k) es i = some (match aidx l k with | some j => some (i + j, (es.getD j default).val) | none => none)
  | [], [], i, _ => rfl
  | [], p :: l, i, h => by simp at h
  | e :: es, [], i, h => by simp at h
  | e :: es, (k', x) :: l, i, h => by
    simp only [List.map_cons, List.cons.injEq, ekv, mkv, Prod.mk.injEq] at h
    obtain ⟨⟨h1, h2⟩, h3⟩ := h
    simp only [Instr.findNow, h1, M.same D k k' hD]
    by_cases hk : k = k'
    · simp [hk, aidx]
    · have := findNow_some hD k es l (i + 1) h3
      simp only [hk, decide_false, this, aidx, if_false]
      cases aidx l k with
      | none => rfl
      | some j => simp [Nat.add_assoc, Nat.add_comm 1 j]
theorem aidx_spec (k : κ) : ∀ (l : List (κ × α)), (match aidx l k with | some j => ∃ x, assoc l k = some x ∧ l[j]? = some (k, x) | none => assoc l k = none)
  | [] => rfl
  | (k', x) :: l => by
    by_cases hk : k = k'
    · subst hk; simp [aidx, assoc]
    · have := aidx_spec k l
      simp only [aidx, assoc, hk, if_false]
      cases h : aidx l k with
      | none => rw [h] at this; simpa using this
      | some j => rw [h] at this; simpa using this
theorem aput_idx (k : κ) (x : α) : ∀ (l : List (κ × α)), aput l k x = match aidx l k with | some j => l.set j (k, x) | none => l ++ [(k, x)]
  | [] => rfl
  | (k', y) :: l => by
    by_cases hk : k = k'
    · simp [aput, aidx, hk]
    · have := aput_idx k x l
      simp only [aput, aidx, hk, if_false, this]
      cases aidx l k <;> rfl
theorem adel_idx (k : κ) : ∀ (l : List (κ × α)), adel l k = match aidx l k with | some j => l.eraseIdx j | none => l
  | [] => rfl
  | (k', y) :: l => by
    by_cases hk : k = k'
    · simp [adel, aidx, hk]
    · have := adel_idx k l
      simp only [adel, aidx, hk, if_false, this]
      cases aidx l k <;> rfl

theorem map_eraseIdx' {β γ : Type} (f : β → γ) : ∀ (l : List β) (j : Nat), (l.eraseIdx j).map f = (l.map f).eraseIdx j
  | [], _ => rfl
  | _ :: _, 0 => rfl
  | x :: l, j + 1 => by simp [List.eraseIdx, map_eraseIdx' f l j]
theorem run_checkKey {P : Program} {K : TypeId} {D : TypeDesc} (hu : P.underlying K = some D) (hD : M.fits D = true) (em : Bool) (v : Value) (w : World) : (Instr.checkKey em 10000 K v).run P w = .ok () w := by
  have hp := M.plain D hD
  rw [show (10000 : Nat) = 9999 + 1 from rfl, Instr.checkKey]
  simp only [Sem.run_bind, run_underlying hu, Result.andThen_ok]
  cases D <;> simp at hp <;> (cases v <;> rfl)
theorem run_findKey {P : Program} {K : TypeId} {D : TypeDesc} (hu : P.underlying K = some D) (hD : M.fits D = true) (k : κ) {es : Array MapEntry} {l : List (κ × α)} (h : es.toList.map ekv = l.map (mkv M)) (w : World) :
    (Instr.findKey K (M.key k) es.toList).run P w = .ok (match aidx l k with | some j => some (j, (es.toList.getD j default).val) | none => none) w := by
  simp only [Instr.findKey, Sem.run_bind, run_underlying hu, Result.andThen_ok, findNow_some hD k es.toList l 0 h, Nat.zero_add]
  rfl
theorem kv_get {es : Array MapEntry} {l : List (κ × α)} (h : es.toList.map ekv = l.map (mkv M)) {j : Nat} {k : κ} {x : α} (hj : l[j]? = some (k, x)) : ∃ e, es.toList[j]? = some e ∧ e.key = M.key k ∧ e.val = M.val x := by
  have := congrArg (fun l => l[j]?) h
  simp only [List.getElem?_map, hj, Option.map_some] at this
  obtain ⟨e, he, hv⟩ := Option.map_eq_some_iff.1 this
  simp only [ekv, mkv, Prod.mk.injEq] at hv
  exact ⟨e, he, hv.1, hv.2⟩
end

/-- A map that the walk owns. -/
def mp {κ α : Type} [DecidableEq κ] (M : MapT κ α) (b : Nat) (l : List (κ × α)) : Assn := fun _ h => ∃ es clock, h b = some (.map es clock) ∧ MapIs M es clock l
/-- .. while it is ranged over: what is left; the one that has come up. -/
def mpi {κ α : Type} [DecidableEq κ] (M : MapT κ α) (m b : Nat) (l left : List (κ × α)) (cur : Option (κ × α)) : Assn := fun _ h => ∃ es clock seen, m ≠ b ∧ h m = some (.map es clock) ∧ h b = some (.mapIter (some m) clock seen clock) ∧ MapIs M es clock l ∧
  (es.toList.filter fun e => !seen.contains e.born).map ekv = left.map (mkv M) ∧ (match cur with | none => True | some p => ∃ e ∈ es.toList, seen.back? = some e.born ∧ ekv e = mkv M p)
class SelM (Γ : List Assn) (b : Nat) {κ α : outParam Type} [i : outParam (DecidableEq κ)] (M : outParam (MapT κ α)) (l : outParam (List (κ × α))) (Γ' : outParam (List Assn)) : Prop where
  h : Sel Γ (mp M b l) Γ'
instance SelM.here {κ α : Type} [DecidableEq κ] {M : MapT κ α} {b : Nat} {l : List (κ × α)} {Γ : List Assn} : SelM (mp M b l :: Γ) b M l Γ := ⟨.here⟩
instance (priority := low) SelM.there {κ α : Type} [DecidableEq κ] {M : MapT κ α} {b : Nat} {l : List (κ × α)} {A : Assn} {Γ Γ' : List Assn} [h : SelM Γ b M l Γ'] : SelM (A :: Γ) b M l (A :: Γ') := ⟨.there h.h⟩
class SelI (Γ : List Assn) (b : Nat) {κ α : outParam Type} [i : outParam (DecidableEq κ)] (M : outParam (MapT κ α)) (m : outParam Nat) (l left : outParam (List (κ × α))) (cur : outParam (Option (κ × α))) (Γ' : outParam (List Assn)) : Prop where
  h : Sel Γ (mpi M m b l left cur) Γ'
instance SelI.here {κ α : Type} [DecidableEq κ] {M : MapT κ α} {m b : Nat} {l left : List (κ × α)} {cur : Option (κ × α)} {Γ : List Assn} : SelI (mpi M m b l left cur :: Γ) b M m l left cur Γ := ⟨.here⟩
instance (priority := low) SelI.there {κ α : Type} [DecidableEq κ] {M : MapT κ α} {m b : Nat} {l left : List (κ × α)} {cur : Option (κ × α)} {A : Assn} {Γ Γ' : List Assn} [h : SelI Γ b M m l left cur Γ'] : SelI (A :: Γ) b M m l left cur (A :: Γ') := ⟨.there h.h⟩
/-- A type of keys that fits. -/
class KFit (P : Program) (K : TypeId) {κ α : Type} [DecidableEq κ] (M : MapT κ α) : Prop where
  h : ∃ D, P.underlying K = some D ∧ M.fits D = true

section
variable {κ α : Type} [DecidableEq κ] {M : MapT κ α} {B w : World} {F : Assn} {Γ : List Assn}
theorem mp_open {b : Nat} {l : List (κ × α)} (h : Sat B F (mp M b l :: Γ) w) : ∃ es clock, MapIs M es clock l ∧ Sat B F (blk b (.map es clock) :: Γ) w := by
  obtain ⟨hb, m, hm, h1, h2, d, l1, l2, hF, h3, h4, d', l3, l4, ⟨es, clock, hh, hi⟩, hs⟩ := h
  exact ⟨es, clock, hi, hb, m, hm, h1, h2, d, l1, l2, hF, h3, h4, d', l3, l4, hh, hs⟩
theorem mp_close {b : Nat} {l : List (κ × α)} {es : Array MapEntry} {clock : Nat} (h : Sat B F (blk b (.map es clock) :: Γ) w) (hi : MapIs M es clock l) : Sat B F (mp M b l :: Γ) w := by
  obtain ⟨hb, m, hm, h1, h2, d, l1, l2, hF, h3, h4, d', l3, l4, hh, hs⟩ := h
  exact ⟨hb, m, hm, h1, h2, d, l1, l2, hF, h3, h4, d', l3, l4, ⟨es, clock, hh, hi⟩, hs⟩
theorem mpi_open {m b : Nat} {l left : List (κ × α)} {cur : Option (κ × α)} (h : Sat B F (mpi M m b l left cur :: Γ) w) : ∃ es clock seen, m ≠ b ∧ MapIs M es clock l ∧ (es.toList.filter fun e => !seen.contains e.born).map ekv = left.map (mkv M) ∧
    (match cur with | none => True | some p => ∃ e ∈ es.toList, seen.back? = some e.born ∧ ekv e = mkv M p) ∧ Sat B F (blk b (.mapIter (some m) clock seen clock) :: blk m (.map es clock) :: Γ) w := by
  obtain ⟨hb, M', hm, h1, h2, d, l1, l2, hF, h3, h4, d', l3, l4, ⟨es, clock, seen, hne, hmm, hbb, hi, hl, hc⟩, hs⟩ := h
  refine ⟨es, clock, seen, hne, hi, hl, hc, hb, M', hm, h1, h2, d, l1, l2, hF, Hp.one b (.mapIter (some m) clock seen clock), Hp.union (Hp.one m (.map es clock)) h4, ?_, ?_, ?_, by simp [blk, Hp.one], Hp.one m (.map es clock), h4, ?_, ?_, ?_, by simp [blk, Hp.one], hs⟩
  · intro x
    by_cases e : x = b
    · right
      subst e
      have : h4 x = none := (d' x).resolve_left (by rw [hbb]; simp)
      simp [Hp.union, Hp.one, Ne.symm hne, this]
    · left; simp [Hp.one, e]
  · intro x o e
    by_cases ex : x = b
    · subst ex; simp [Hp.one] at e; subst e; exact l3 _ _ hbb
    · simp [Hp.one, ex] at e
  · refine Hp.union_le (fun x o e => ?_) l4
    by_cases ex : x = m
    · subst ex; simp [Hp.one] at e; subst e; exact l3 _ _ hmm
    · simp [Hp.one, ex] at e
  · intro x
    by_cases e : x = m
    · right; subst e; exact (d' x).resolve_left (by rw [hmm]; simp)
    · left; simp [Hp.one, e]
  · exact Hp.le_union_left _ _
  · refine Hp.le_union_right fun x => ?_
    by_cases e : x = m
    · right; subst e; exact (d' x).resolve_left (by rw [hmm]; simp)
    · left; simp [Hp.one, e]
theorem mpi_close {m b : Nat} {l left : List (κ × α)} {cur : Option (κ × α)} {es : Array MapEntry} {clock : Nat} {seen : Array Nat} (h : Sat B F (blk b (.mapIter (some m) clock seen clock) :: blk m (.map es clock) :: Γ) w) (hi : MapIs M es clock l) (hl : (es.toList.filter fun e => !seen.contains e.born).map ekv = left.map (mkv M))
    (hc : match cur with | none => True | some p => ∃ e ∈ es.toList, seen.back? = some e.born ∧ ekv e = mkv M p) : Sat B F (mpi M m b l left cur :: Γ) w := by
  have hne : b ≠ m := h.ne
  obtain ⟨hb, M', hm, h1, h2, d, l1, l2, hF, h3, h4, d', l3, l4, hbb, h5, h6, d'', l5, l6, hmm, hs⟩ := h
  have dd : Hp.disj h3 h5 := Hp.disj_le d' (Hp.le_refl _) l5
  refine ⟨hb, M', hm, h1, h2, d, l1, l2, hF, Hp.union h3 h5, h6, Hp.disj_union (Hp.disj_le d' (Hp.le_refl _) l6) d'', Hp.union_le l3 (Hp.le_trans l5 l4), Hp.le_trans l6 l4, ⟨es, clock, seen, Ne.symm hne, Hp.le_union_right dd _ _ hmm, Hp.le_union_left _ _ _ _ hbb, hi, hl, hc⟩, hs⟩
theorem mpi_done {m b : Nat} {l left : List (κ × α)} {cur : Option (κ × α)} (h : Sat B F (mpi M m b l left cur :: Γ) w) : Sat B F (mp M m l :: Γ) w := by
  obtain ⟨es, clock, seen, _, hi, _, _, hS⟩ := mpi_open h
  exact mp_close hS.tail hi

theorem run_getObj {P : Program} {r : Nat} {o : Obj} (h : w.heap[r]? = some o) (hc : ∀ c e f, o ≠ .cells c e f) : (getObj r).run P w = .ok o w := by
  unfold getObj
  cases o <;> first | (exact absurd rfl (hc _ _ _)) | simp only [Sem.run, h]
theorem run_setObj {P : Program} {r : Nat} {o o' : Obj} (h : w.heap[r]? = some o) (hc : ∀ c e f, o ≠ .cells c e f) : (setObj r o').run P w = .ok () { w with heap := w.heap.setIfInBounds r o' } := by
  unfold setObj
  cases o <;> first | (exact absurd rfl (hc _ _ _)) | simp only [Sem.run, h]
end

section
variable {c : Ctx} {k : List Item} {st : St} {Γ : List Assn} {d : Option Tmp} {ty : TypeId} {pos : String} {af : Array Edge} {g : Option (Nat × Bool)} {ops : Array Oper} {rs : List Oper} {l : List Stp} {fl : Bool}
variable {x y z : Operand} {T U : TypeId} {κ α : Type} [iκ : DecidableEq κ] {M : MapT κ α} {m : Nat} {L : List (κ × α)} {Γ' : List Assn}

/-- len(m). -/
theorem lnm {K E : TypeId} [ht : TMap c.P T K E] (hv : ev st x = some (.map (some m))) [hs : SelM Γ m M L Γ'] (h : JR c ops l k (stput d (.int .i64 L.length) st) Γ) (hg : gOk ops st ⟨d, .call ⟨.builtin .len, #[x], #[T]⟩, ty, pos, af, g⟩ = some true := by rfl) (hd : dOk d c.n = true := by rfl) :
    JR c ops (⟨⟨d, .call ⟨.builtin .len, #[x], #[T]⟩, ty, pos, af, g⟩, fl, []⟩ :: l) k st Γ :=
  ro h (fun a w ha hS => by
    obtain ⟨es, clock, hi, hS'⟩ := mp_open (hS.perm hs.h.perm)
    refine run_builtin (vs := [.map (some m)]) (by simp [ev_eval ha hv]) fun cs => ?_
    have hlen : es.size = L.length := by have := congrArg List.length hi.kv; simpa using this
    simp [builtin, Builtin.len_, run_underlying ht.h, run_getObj (P := c.P) (hS'.blk .here).2 (by simp), goInt, hlen]) hg hd
/-- m[k], v, ok := m[k]. -/
theorem RO_lookup {K E : TypeId} {zv : Value} {ok : Bool} {q : κ} [ht : TMap c.P T K E] [hz : TZero c.P E zv] [hk : KFit c.P K M] (hv : ev st x = some (.map (some m))) (hy : ev st y = some (M.key q)) [hs : SelM Γ m M L Γ'] {u : Value} (hu : u = match assoc L q with | some a => (if ok then .tuple #[M.val a, .bool true] else M.val a) | none => (if ok then .tuple #[zv, .bool false] else zv)) :
    RO c st Γ ⟨d, .lookup T x y ok, ty, pos, af, g⟩ u := fun a w ha hS => by
  obtain ⟨es, clock, hi, hS'⟩ := mp_open (hS.perm hs.h.perm)
  obtain ⟨D, hD, hfit⟩ := hk.h
  simp only [execOp, ev_eval ha hv, ev_eval ha hy, Instr.lookup, Sem.run_bind, run_underlying ht.h, Result.andThen_ok, run_getObj (P := c.P) (hS'.blk .here).2 (by simp), Sem.run_pure, run_checkKey hD hfit, run_findKey hD hfit q hi.kv]
  have hsp := aidx_spec q L
  cases haq : aidx L q with
  | none =>
    rw [haq] at hsp
    simp only [hsp] at hu
    subst hu
    cases ok <;> simp [run_zeroValue hz.z]
  | some j =>
    rw [haq] at hsp
    obtain ⟨xv, h1, h2⟩ := hsp
    simp only [h1] at hu
    obtain ⟨e, he, _, hev⟩ := kv_get hi.kv h2
    subst hu
    cases ok <;> simp [he, hev]
theorem lko {K E : TypeId} {zv : Value} {ok : Bool} {q : κ} [ht : TMap c.P T K E] [hz : TZero c.P E zv] [hs : SelM Γ m M L Γ'] [hk : KFit c.P K M] (hv : ev st x = some (.map (some m))) (hy : ev st y = some (M.key q)) 
    (h1 : ∀ a, assoc L q = some a → JR c ops l k (stput d (if ok then .tuple #[M.val a, .bool true] else M.val a) st) Γ) (h0 : assoc L q = none → JR c ops l k (stput d (if ok then .tuple #[zv, .bool false] else zv) st) Γ)
    (hg : gOk ops st ⟨d, .lookup T x y ok, ty, pos, af, g⟩ = some true := by rfl) (hd : dOk d c.n = true := by rfl) : JR c ops (⟨⟨d, .lookup T x y ok, ty, pos, af, g⟩, fl, []⟩ :: l) k st Γ := by
  cases hq : assoc L q with
  | none => exact ro (h0 hq) (RO_lookup hv hy (by rw [hq])) hg hd
  | some a => exact ro (h1 a hq) (RO_lookup hv hy (by rw [hq])) hg hd

/-- m[k] = v. -/
theorem mpu {K E : TypeId} {q : κ} {xv : α} {u : Value} [ht : TMap c.P T K E] [hs : SelM Γ m M L Γ'] [hk : KFit c.P K M] (hv : ev st x = some (.map (some m))) (hy : ev st y = some (M.key q)) (hz : ev st z = some u) (hu : u = M.val xv) (h : JS c ops rs l k (stput d undef st) (mp M m (aput L q xv) :: Γ'))
    (hg : gOk ops st ⟨d, .mapUpdate T x y z, ty, pos, af, g⟩ = some true := by rfl) (hd : dOk d c.n = true := by rfl) : JR c ops (⟨⟨d, .mapUpdate T x y z, ty, pos, af, g⟩, false, rs⟩ :: l) k st Γ := by
  subst hu
  intro b cs a w h1 h2 h3 h4
  unfold CR
  simp only [gOk_wanted hg h3, if_true, Bool.false_eq_true, if_false]
  obtain ⟨es, clock, hi, hS⟩ := mp_open (h4.perm hs.h.perm)
  obtain ⟨D, hD, hfit⟩ := hk.h
  have hget := run_getObj (P := c.P) (hS.blk .here).2 (by simp)
  have hset := fun o' => run_setObj (P := c.P) (o' := o') (hS.blk .here).2 (by simp)
  have hsp := aidx_spec q L
  have hput := aput_idx q xv L
  cases haq : aidx L q with
  | none =>
    rw [haq] at hput
    have hr : (execOp a.eval ⟨d, .mapUpdate T x y z, ty, pos, af, g⟩).run c.P w = .ok .skip { w with heap := w.heap.setIfInBounds m (.map (es.push { key := M.key q, val := M.val xv, born := clock }) (clock + 1)) } := by
      simp only [execOp, ev_eval h3 hv, ev_eval h3 hy, ev_eval h3 hz, Instr.mapUpdate, Sem.run_bind, run_underlying ht.h, Result.andThen_ok, hget, run_checkKey hD hfit, run_findKey hD hfit q hi.kv, haq, hset, Sem.run_pure]
    rw [hr]
    refine JS_of h h1 h2 (h3.put hd _) (mp_close (hS.write rfl rfl rfl rfl) ⟨?_, ?_, ?_⟩)
    · rw [hput]; simp [hi.kv, ekv, mkv]
    · simp only [Array.toList_push, List.map_append, List.map_cons, List.map_nil]
      rw [List.nodup_append]
      refine ⟨hi.nd, by simp, fun b hb b' hb' => ?_⟩
      obtain ⟨e, he, rfl⟩ := List.mem_map.1 hb
      rw [List.mem_singleton.1 hb']
      exact Nat.ne_of_lt (hi.lt e he)
    · intro e he
      simp only [Array.toList_push, List.mem_append, List.mem_singleton] at he
      rcases he with he | rfl
      · exact Nat.lt_succ_of_lt (hi.lt e he)
      · exact Nat.lt_succ_self _
  | some j =>
    rw [haq] at hput hsp
    obtain ⟨xo, ho, hj⟩ := hsp
    obtain ⟨e, he, hek, hev⟩ := kv_get hi.kv hj
    have hej : es[j]? = some e := by rw [← Array.getElem?_toList]; exact he
    have hr : (execOp a.eval ⟨d, .mapUpdate T x y z, ty, pos, af, g⟩).run c.P w = .ok .skip { w with heap := w.heap.setIfInBounds m (.map (es.modify j fun e => { e with key := M.key q, val := M.val xv }) clock) } := by
      simp only [execOp, ev_eval h3 hv, ev_eval h3 hy, ev_eval h3 hz, Instr.mapUpdate, Sem.run_bind, run_underlying ht.h, Result.andThen_ok, hget, run_checkKey hD hfit, run_findKey hD hfit q hi.kv, haq, hej, Option.map_some, Option.getD_some, hek, Instr.keyThatStays, M.bits, if_true, hset, Sem.run_pure]
    rw [hr]
    have hmod : (es.modify j fun e => { e with key := M.key q, val := M.val xv }).toList = es.toList.set j { e with key := M.key q, val := M.val xv } := by
      apply List.ext_getElem?
      intro i
      rw [Array.getElem?_toList, Array.getElem?_modify]
      by_cases hij : j = i
      · subst hij
        rw [if_pos rfl, hej, List.getElem?_set_self (by
          have := (List.getElem?_eq_some_iff.1 he).1; exact this)]
        rfl
      · rw [if_neg hij, List.getElem?_set_ne hij, Array.getElem?_toList]
    refine JS_of h h1 h2 (h3.put hd _) (mp_close (hS.write rfl rfl rfl rfl) ⟨?_, ?_, ?_⟩)
    · rw [hput, hmod, List.map_set, hi.kv, List.map_set]; rfl
    · rw [hmod, List.map_set]
      have : (es.toList.map (·.born)).set j e.born = es.toList.map (·.born) := by
        apply List.ext_getElem?
        intro i
        by_cases hij : j = i
        · subst hij
          rw [List.getElem?_set_self (by simpa using (List.getElem?_eq_some_iff.1 he).1), List.getElem?_map, he]; rfl
        · rw [List.getElem?_set_ne hij]
      rw [this]; exact hi.nd
    · intro e' he'
      rw [hmod] at he'
      rcases List.mem_or_eq_of_mem_set he' with h5 | rfl
      · exact hi.lt e' h5
      · exact hi.lt e (List.mem_of_getElem? he)

/-- delete(m, k). -/
theorem mdl {K E : TypeId} {q : κ} [ht : TMap c.P T K E] [hs : SelM Γ m M L Γ'] [hk : KFit c.P K M] {tr : List TypeId} (hv : ev st x = some (.map (some m))) (hy : ev st y = some (M.key q)) (h : JS c ops rs l k (stput d (.tuple #[]) st) (mp M m (adel L q) :: Γ'))
    (hg : gOk ops st ⟨d, .call ⟨.builtin .delete, #[x, y], ⟨T :: tr⟩⟩, ty, pos, af, g⟩ = some true := by rfl) (hd : dOk d c.n = true := by rfl) : JR c ops (⟨⟨d, .call ⟨.builtin .delete, #[x, y], ⟨T :: tr⟩⟩, ty, pos, af, g⟩, false, rs⟩ :: l) k st Γ := by
  intro b cs a w h1 h2 h3 h4
  unfold CR
  simp only [gOk_wanted hg h3, if_true, Bool.false_eq_true, if_false]
  obtain ⟨es, clock, hi, hS⟩ := mp_open (h4.perm hs.h.perm)
  obtain ⟨D, hD, hfit⟩ := hk.h
  have hget := run_getObj (P := c.P) (hS.blk .here).2 (by simp)
  have hset := fun o' => run_setObj (P := c.P) (o' := o') (hS.blk .here).2 (by simp)
  have hdel := adel_idx q L
  cases haq : aidx L q with
  | none =>
    rw [haq] at hdel
    rw [run_builtin (vs := [.map (some m), M.key q]) (by simp [ev_eval h3 hv, ev_eval h3 hy]) (r := .ok (.value (.tuple #[])) { w with heap := w.heap.setIfInBounds m (.map es clock) }) (fun cs => by
      simp [builtin, Builtin.delete_, run_underlying ht.h, hget, run_checkKey hD hfit, run_findKey hD hfit q hi.kv, haq, hset])]
    exact JS_of h h1 h2 (h3.put hd _) (mp_close (hS.write rfl rfl rfl rfl) (by rw [hdel]; exact hi))
  | some j =>
    rw [haq] at hdel
    rw [run_builtin (vs := [.map (some m), M.key q]) (by simp [ev_eval h3 hv, ev_eval h3 hy]) (r := .ok (.value (.tuple #[])) { w with heap := w.heap.setIfInBounds m (.map (es.eraseIdxIfInBounds j) clock) }) (fun cs => by
      simp [builtin, Builtin.delete_, run_underlying ht.h, hget, run_checkKey hD hfit, run_findKey hD hfit q hi.kv, haq, hset])]
    have her : (es.eraseIdxIfInBounds j).toList = es.toList.eraseIdx j := by simp
    refine JS_of h h1 h2 (h3.put hd _) (mp_close (hS.write rfl rfl rfl rfl) ⟨?_, ?_, ?_⟩)
    · rw [hdel, her, map_eraseIdx', hi.kv, ← map_eraseIdx']
    · rw [her, map_eraseIdx']; exact hi.nd.sublist (List.eraseIdx_sublist ..)
    · intro e he
      rw [her] at he
      exact hi.lt e ((List.eraseIdx_sublist ..).mem he)

/-- for k, v := range m: the begin; a step; the one that came up. -/
theorem rgm {K E : TypeId} [ht : TMap c.P T K E] (hv : ev st x = some (.map (some m))) [hs : SelM Γ m M L Γ'] (h : ∀ b, JS c ops rs l k (stput d (.pointer (some ⟨b, 0, none⟩)) st) (mpi M m b L L none :: Γ')) (hg : gOk ops st ⟨d, .range T x, ty, pos, af, g⟩ = some true := by rfl) (hd : dOk d c.n = true := by rfl) :
    JR c ops (⟨⟨d, .range T x, ty, pos, af, g⟩, false, rs⟩ :: l) k st Γ := by
  intro b cs a w h1 h2 h3 h4
  unfold CR
  simp only [gOk_wanted hg h3, if_true, Bool.false_eq_true, if_false]
  obtain ⟨es, clock, hi, hS⟩ := mp_open (h4.perm hs.h.perm)
  have : (execOp a.eval ⟨d, .range T x, ty, pos, af, g⟩).run c.P w = .ok (.value (.pointer (some ⟨w.heap.size, 0, none⟩))) (w.alloc (.mapIter (some m) clock #[] clock)) := by
    simp [execOp, ev_eval h3 hv, Instr.range, run_underlying ht.h, run_getObj (P := c.P) (hS.blk .here).2 (by simp)]
  rw [this]
  refine JS_of (h w.heap.size) h1 h2 (h3.put hd _) (mpi_close (hS.alloc _) hi ?_ trivial)
  rw [← hi.kv]
  congr 1
  exact List.filter_eq_self.2 (by simp)
end
end Go.Proofs.YtaeefjcbmkiiaaaGreatDoor.Sl
