/- Slices: what a list of Lean's is to a slice of Go's: one that the walk owns, with its room; one that it reads. -/
import Derived.Test.YtaeefjcbmkiiaaaGreatDoorSl6
import Derived.Laws.AppendOwn
namespace Go.Proofs.YtaeefjcbmkiiaaaGreatDoor.Sl
open Go Go.RowKit

/-- How a value of a type lies in cells. -/
structure EncT (α : Type) where
  enc : α → List Value
  dec : List Value → α
  sz : Nat
  dflt : α
  len : ∀ x, (enc x).length = sz
  ok : ∀ x, (enc x).all one = true
  pos : 0 < sz
def flat {α : Type} (e : EncT α) (l : List α) : List Value := l.flatMap e.enc
section
variable {α : Type} {e : EncT α}
theorem flat_nil : flat e [] = [] := rfl
theorem flat_cons (x : α) (l : List α) : flat e (x :: l) = e.enc x ++ flat e l := rfl
theorem flat_append (a b : List α) : flat e (a ++ b) = flat e a ++ flat e b := by simp [flat]
theorem flat_length (l : List α) : (flat e l).length = l.length * e.sz := by
  induction l with
  | nil => simp [flat]
  | cons x l ih => rw [flat_cons, List.length_append, e.len, ih, List.length_cons, Nat.succ_mul, Nat.add_comm]
theorem flat_get (l : List α) (i j : Nat) (hi : i < l.length) (hj : j < e.sz) : (flat e l)[i * e.sz + j]? = (e.enc (l.getD i e.dflt))[j]? := by
  induction l generalizing i with
  | nil => simp at hi
  | cons x l ih =>
    rw [flat_cons]
    cases i with
    | zero => rw [List.getElem?_append_left (by rw [e.len]; omega)]; simp
    | succ i =>
      rw [List.getElem?_append_right (by rw [e.len, Nat.succ_mul]; omega), e.len, show (i + 1) * e.sz + j - e.sz = i * e.sz + j by rw [Nat.succ_mul]; omega, ih i (by simpa using hi)]
      simp
theorem flat_take (l : List α) (n : Nat) : flat e (l.take n) = (flat e l).take (n * e.sz) := by
  induction l generalizing n with
  | nil => simp [flat]
  | cons x l ih =>
    cases n with
    | zero => simp [flat]
    | succ n =>
      rw [List.take_succ_cons, flat_cons, flat_cons, ih, Nat.succ_mul, List.take_append, e.len, List.take_of_length_le (l := e.enc x) (by rw [e.len]; omega), Nat.add_sub_cancel]
theorem flat_drop (l : List α) (n : Nat) : flat e (l.drop n) = (flat e l).drop (n * e.sz) := by
  induction l generalizing n with
  | nil => simp [flat]
  | cons x l ih =>
    cases n with
    | zero => simp
    | succ n =>
      rw [List.drop_succ_cons, flat_cons, ih, Nat.succ_mul, List.drop_append, e.len, List.drop_eq_nil_of_le (as := e.enc x) (by rw [e.len]; omega), Nat.add_sub_cancel, List.nil_append]
theorem flat_ok (l : List α) : ∀ u ∈ flat e l, u.oneCell' = true := by
  intro u hu
  obtain ⟨x, _, hx⟩ := List.mem_flatMap.1 hu
  have := List.all_eq_true.1 (e.ok x) u hx
  cases u <;> first | rfl | (simp [one] at this)
theorem flat_set (l : List α) (i : Nat) (hi : i < l.length) (x : α) : flat e (l.set i x) = (flat e l).take (i * e.sz) ++ e.enc x ++ (flat e l).drop ((i + 1) * e.sz) := by
  rw [← flat_take, ← flat_drop, List.set_eq_take_append_cons_drop, if_pos hi, flat_append, flat_cons, List.append_assoc]
end

/-- A slice that is read: in a heap. -/
def RdH {α : Type} (hp : Hp) (e : EncT α) (v : Value) (l : List α) : Prop :=
  (v = .slice none 0 0 ∧ l = []) ∨ ∃ b off cap cur E fz, v = .slice (some ⟨b, off, none⟩) l.length cap ∧ l.length ≤ cap ∧ hp b = some (.cells cur E fz) ∧ ∀ j, j < l.length * e.sz → cur.toList[off + j]? = (flat e l)[j]?
def RdW {α : Type} (w : World) (e : EncT α) (v : Value) (l : List α) : Prop := RdH (fun b => w.heap[b]?) e v l
/-- .. of what was there when the law began. -/
def rsl {α : Type} (e : EncT α) (v : Value) (l : List α) : Assn := fun r _ => RdH r e v l
/-- A slice that is owned, with its room. -/
def sl {α : Type} (E : TypeId) (e : EncT α) (v : Value) (l : List α) : Assn := fun _ h =>
  (v = .slice none 0 0 ∧ l = []) ∨ ∃ g cap cur, v = .slice (some ⟨g, 0, none⟩) l.length cap ∧ h g = some (.cells cur E (0, 0)) ∧ l.length ≤ cap ∧ cap ≤ maxLen ∧ cur.size = cap * e.sz ∧ cur.toList.take (l.length * e.sz) = flat e l

section
variable {α : Type} {e : EncT α} {v : Value} {l : List α}
theorem RdH.mono {h h' : Hp} (hl : Hp.le h h') (hr : RdH h e v l) : RdH h' e v l := by
  rcases hr with h1 | ⟨b, off, cap, cur, E, fz, h1, h2, h3, h4⟩
  · exact .inl h1
  · exact .inr ⟨b, off, cap, cur, E, fz, h1, h2, hl _ _ h3, h4⟩
theorem RdW.len {w : World} (h : RdW w e v l) : ∃ p cap, v = .slice p l.length cap := by
  rcases h with ⟨h1, h2⟩ | ⟨b, off, cap, cur, E, fz, h1, h2, h3, h4⟩
  · exact ⟨none, 0, by rw [h1, h2]; rfl⟩
  · exact ⟨_, cap, h1⟩
theorem Sat.below_le {B w : World} {F : Assn} {Γ : List Assn} (h : Sat B F Γ w) : Hp.le (baseHp B) fun b => w.heap[b]? := fun b o e => by
  unfold baseHp at e
  split at e
  · rename_i hlt; show w.heap[b]? = some o; rw [h.1.block b hlt]; exact e
  · cases e
end
class RdG (Γ : List Assn) (v : Value) {α : outParam Type} (e : outParam (EncT α)) (l : outParam (List α)) : Prop where
  h : ∀ B F w, Sat B F Γ w → RdW w e v l
instance RdG.sl {α : Type} {e : EncT α} {v : Value} {l : List α} {E : TypeId} {Γ : List Assn} : RdG (sl E e v l :: Γ) v e l := ⟨fun B F w hS => by
  obtain ⟨h1, hm, hA⟩ := hS.peek .here
  rcases hA with hA | ⟨g, cap, cur, e1, e2, e3, e4, e5, e6⟩
  · exact .inl hA
  · refine .inr ⟨g, 0, cap, cur, E, (0, 0), e1, e3, (hm _ _ e2).2, fun j hj => ?_⟩
    rw [← e6, Nat.zero_add, List.getElem?_take, if_pos hj]⟩
instance RdG.rsl {α : Type} {e : EncT α} {v : Value} {l : List α} {Γ : List Assn} : RdG (rsl e v l :: Γ) v e l := ⟨fun B F w hS => by
  obtain ⟨h1, hm, hA⟩ := hS.peek .here
  exact RdH.mono hS.below_le hA⟩
instance (priority := low) RdG.there {α : Type} {e : EncT α} {v : Value} {l : List α} {A : Assn} {Γ : List Assn} [h : RdG Γ v e l] : RdG (A :: Γ) v e l := ⟨fun B F w hS => h.h B F w hS.tail⟩
/-- .. owned, and what it stands beside. -/
class SelS (Γ : List Assn) (v : Value) (E : outParam TypeId) {α : outParam Type} (e : outParam (EncT α)) (l : outParam (List α)) (Γ' : outParam (List Assn)) : Prop where
  h : Sel Γ (Sl.sl E e v l) Γ'
instance SelS.here {α : Type} {e : EncT α} {v : Value} {l : List α} {E : TypeId} {Γ : List Assn} : SelS (sl E e v l :: Γ) v E e l Γ := ⟨.here⟩
instance (priority := low) SelS.there {α : Type} {e : EncT α} {v : Value} {l : List α} {E : TypeId} {A : Assn} {Γ Γ' : List Assn} [h : SelS Γ v E e l Γ'] : SelS (A :: Γ) v E e l (A :: Γ') := ⟨.there h.h⟩
/-- How a type's values are told. -/
class TEnc (E : TypeId) {α : outParam Type} (e : outParam (EncT α)) : Prop where
  h : True

/-- The block of a slice; the place of its first cell; the place of a cell of an element. -/
def vb : Value → Nat | .slice (some a) _ _ => a.block | _ => 0
def vo : Value → Nat | .slice (some a) _ _ => a.off | _ => 0
def el (o i sz j : Nat) : Nat := o + (i * sz + j)
/-- A piece of a slice. -/
def vw (v : Value) (a b sz : Nat) : Value := match v with
  | .slice p _ cap => .slice (if cap = a then p else p.map (·.add (a * sz))) (b - a) (cap - a)
  | _ => v

theorem RdW.at {α : Type} {e : EncT α} {v : Value} {l : List α} {w : World} (h : RdW w e v l) {i : Nat} (hi : i < l.length) : ∃ cap E fz cur, v = .slice (some ⟨vb v, vo v, none⟩) l.length cap ∧ w.heap[vb v]? = some (.cells cur E fz) ∧ ∀ j, j < e.sz → cur.toList[el (vo v) i e.sz j]? = (e.enc (l.getD i e.dflt))[j]? := by
  rcases h with ⟨_, h2⟩ | ⟨b, off, cap, cur, E, fz, h1, h2, h3, h4⟩
  · subst h2; simp at hi
  · subst h1
    refine ⟨cap, E, fz, cur, rfl, h3, fun j hj => ?_⟩
    have : i * e.sz + j < l.length * e.sz := by
      have : (i + 1) * e.sz ≤ l.length * e.sz := Nat.mul_le_mul_right _ hi
      rw [Nat.succ_mul] at this; omega
    have h5 := h4 _ this
    rw [flat_get l i j hi hj] at h5
    exact h5
theorem RdW.view {α : Type} {e : EncT α} {v : Value} {l : List α} {w : World} (h : RdW w e v l) {a b : Nat} (hab : a ≤ b) (hb : b ≤ l.length) : RdW w e (vw v a b e.sz) ((l.take b).drop a) := by
  have hlen : ((l.take b).drop a).length = b - a := by simp; omega
  rcases h with ⟨rfl, rfl⟩ | ⟨g, off, cap, cur, E, fz, rfl, h2, h3, h4⟩
  · left
    simp at hb
    obtain rfl : b = 0 := by omega
    obtain rfl : a = 0 := by omega
    simp [vw]
  · right
    by_cases hc : cap = a
    · refine ⟨g, off, cap - a, cur, E, fz, by simp [vw, hc, hlen], by rw [hlen]; omega, h3, fun j hj => ?_⟩
      rw [hlen] at hj
      have : b - a = 0 := by omega
      rw [this] at hj; simp at hj
    · refine ⟨g, off + a * e.sz, cap - a, cur, E, fz, by simp [vw, hc, hlen, add_none], by rw [hlen]; omega, h3, fun j hj => ?_⟩
      rw [hlen] at hj
      rw [flat_drop, flat_take, List.getElem?_drop, List.getElem?_take]
      have h5 : a * e.sz + j < b * e.sz := by
        have : (b - a) * e.sz = b * e.sz - a * e.sz := Nat.sub_mul ..
        omega
      rw [if_pos h5, ← h4 _ (Nat.lt_of_lt_of_le h5 (Nat.mul_le_mul_right _ hb)), Nat.add_assoc]

section
variable {c : Ctx} {k : List Item} {st : St} {Γ : List Assn} {d : Option Tmp} {ty : TypeId} {pos : String} {af : Array Edge} {g : Option (Nat × Bool)} {ops : Array Oper} {rs : List Oper} {l : List Stp} {fl : Bool}
variable {x y : Operand} {T U : TypeId} {α : Type} {e : EncT α} {v : Value} {L : List α}

/-- The length of a slice that is read. -/
theorem lls {E : TypeId} [ht : TSlice c.P T E] (hv : ev st x = some v) [hr : RdG Γ v e L] (h : JR c ops l k (stput d (.int .i64 L.length) st) Γ) (hg : gOk ops st ⟨d, .call ⟨.builtin .len, #[x], #[T]⟩, ty, pos, af, g⟩ = some true := by rfl) (hd : dOk d c.n = true := by rfl) : JR c ops (⟨⟨d, .call ⟨.builtin .len, #[x], #[T]⟩, ty, pos, af, g⟩, fl, []⟩ :: l) k st Γ :=
  ro h (fun a w ha hS => by
    obtain ⟨p, cap, rfl⟩ := (hr.h _ _ _ hS).len
    exact RO_len_slice (c := c) (Γ := Γ) hv a w ha hS) hg hd
/-- &s[i]. -/
theorem ixa {E bb : Nat} {i : IntKind} {n : Int} [ht : TSlice c.P T E] (hv : ev st x = some v) (hy : ev st y = some (.int i n)) [hr : RdG Γ v e L] [hz : ESize c.P E e.sz bb] (h : JR c ops l k (stput d (.pointer (some ⟨vb v, el (vo v) n.toNat e.sz 0, none⟩)) st) Γ) (hb : 0 ≤ n ∧ n < L.length := by omega)
    (hg : gOk ops st ⟨d, .indexAddr T x y, ty, pos, af, g⟩ = some true := by rfl) (hd : dOk d c.n = true := by rfl) : JR c ops (⟨⟨d, .indexAddr T x y, ty, pos, af, g⟩, fl, []⟩ :: l) k st Γ :=
  ro h (fun a w ha hS => by
    obtain ⟨cap, E', fz, cur, h1, h2, h3⟩ := (hr.h _ _ _ hS).at (i := n.toNat) (by omega)
    have hev := ev_eval ha hv
    rw [h1] at hev
    simp only [execOp, hev, ev_eval ha hy, Instr.indexAt, asIntOf, Sem.run_bind, Sem.run_pure, Result.andThen_ok, run_underlying ht.h]
    simp [hb, run_sizeOf (szOf_of hz.h), add_none, el]) hg hd
/-- &s[i].f. -/
theorem fe {b o i sz j off fi : Nat} [hf : FOff c.P T fi off] (h : JR c ops l k (stput d (.pointer (some ⟨b, el o i sz (j + off), none⟩)) st) Γ) (hv : ev st x = some (.pointer (some ⟨b, el o i sz j, none⟩)) := by rfl) (hg : gOk ops st ⟨d, .fieldAddr T x fi, ty, pos, af, g⟩ = some true := by rfl) (hd : dOk d c.n = true := by rfl) : JR c ops (⟨⟨d, .fieldAddr T x fi, ty, pos, af, g⟩, fl, []⟩ :: l) k st Γ :=
  ro h (by
    have := RO_fieldAddr (c := c) (Γ := Γ) (d := d) (ty := ty) (pos := pos) (af := af) (g := g) (T := T) (i := fi) hv
    rwa [show el o i sz j + off = el o i sz (j + off) by unfold el; omega] at this) hg hd
/-- s[i].f, s[i], read. -/
theorem lde {i j : Nat} {u : Value} [ht : TSc c.P T] (hv : ev st x = some (.pointer (some ⟨vb v, el (vo v) i e.sz j, none⟩))) [hr : RdG Γ v e L] (h : JR c ops l k (stput d u st) Γ) (hb : i < L.length := by omega) (hl : (e.enc (L.getD i e.dflt))[j]? = some u := by rfl)
    (hg : gOk ops st ⟨d, .load T x, ty, pos, af, g⟩ = some true := by rfl) (hd : dOk d c.n = true := by rfl) : JR c ops (⟨⟨d, .load T x, ty, pos, af, g⟩, fl, []⟩ :: l) k st Γ :=
  ro h (fun a w ha hS => by
    obtain ⟨cap, E', fz, cur, h1, h2, h3⟩ := (hr.h _ _ _ hS).at hb
    have hj : j < e.sz := by
      rw [← e.len (L.getD i e.dflt)]
      rcases Nat.lt_or_ge j (e.enc (L.getD i e.dflt)).length with h | h
      · exact h
      · rw [List.getElem?_eq_none h] at hl; cases hl
    simp [execOp, ev_eval ha hv, Instr.loadAt, Instr.sureAddr, run_loadVar_sc ht.a (cell_of (l := cur.toList) h2 (by rw [h3 j hj]; exact hl))]) hg hd
theorem lae {i j n : Nat} {us : List Value} [ht : TAgg c.P T n] (hv : ev st x = some (.pointer (some ⟨vb v, el (vo v) i e.sz j, none⟩))) [hr : RdG Γ v e L] (h : JR c ops l k (stput d (.agg ⟨us⟩) st) Γ) (hb : i < L.length := by omega) (hl : GetN (e.enc (L.getD i e.dflt)) j n us := by (repeat constructor))
    (hg : gOk ops st ⟨d, .load T x, ty, pos, af, g⟩ = some true := by rfl) (hd : dOk d c.n = true := by rfl) : JR c ops (⟨⟨d, .load T x, ty, pos, af, g⟩, fl, []⟩ :: l) k st Γ :=
  ro h (fun a w ha hS => by
    obtain ⟨cap, E', fz, cur, h1, h2, h3⟩ := (hr.h _ _ _ hS).at hb
    obtain ⟨h4, h5⟩ := hl.get
    have := run_loadVar_agg (P := c.P) ht.a ht.s h4 (w := w) (b := vb v) (o := el (vo v) i e.sz j) (fun q hq => by
      have hq' : q < us.length := by omega
      have h6 := h5 q hq
      rw [List.getElem?_eq_getElem hq'] at h6 ⊢
      have hjq : j + q < e.sz := by
        rw [← e.len (L.getD i e.dflt)]
        rcases Nat.lt_or_ge (j + q) (e.enc (L.getD i e.dflt)).length with h | h
        · exact h
        · rw [List.getElem?_eq_none h] at h6; cases h6
      refine cell_of (l := cur.toList) h2 ?_
      rw [show el (vo v) i e.sz j + q = el (vo v) i e.sz (j + q) by unfold el; omega, h3 _ hjq, h6])
    simp [execOp, ev_eval ha hv, Instr.loadAt, Instr.sureAddr, this]) hg hd

/-! ### stores -/
theorem sl_open {B w : World} {F : Assn} {E : TypeId} (hS : Sat B F (sl E e v L :: Γ) w) {i : Nat} (hi : i < L.length) : ∃ cap cur, v = .slice (some ⟨vb v, 0, none⟩) L.length cap ∧ vo v = 0 ∧ Sat B F (blk (vb v) (.cells cur E (0, 0)) :: Γ) w ∧ L.length ≤ cap ∧ cap ≤ maxLen ∧ cur.size = cap * e.sz ∧ cur.toList.take (L.length * e.sz) = flat e L := by
  obtain ⟨hb, m, hm, h1, h2, d, l1, l2, hF, h3, h4, d', l3, l4, hA, hs⟩ := hS
  rcases hA with ⟨_, rfl⟩ | ⟨g, cap, cur, rfl, e2, e3, e4, e5, e6⟩
  · simp at hi
  · exact ⟨cap, cur, rfl, rfl, ⟨hb, m, hm, h1, h2, d, l1, l2, hF, h3, h4, d', l3, l4, e2, hs⟩, e3, e4, e5, e6⟩
theorem sl_close {B w : World} {F : Assn} {E b cap : Nat} {cur : Array Value} {L : List α} (hS : Sat B F (blk b (.cells cur E (0, 0)) :: Γ) w) (h1 : L.length ≤ cap) (h2 : cap ≤ maxLen) (h3 : cur.size = cap * e.sz) (h4 : cur.toList.take (L.length * e.sz) = flat e L) :
    Sat B F (sl E e (.slice (some ⟨b, 0, none⟩) L.length cap) L :: Γ) w := by
  obtain ⟨hb, m, hm, g1, g2, d, l1, l2, hF, g3, g4, d', l3, l4, hA, hs⟩ := hS
  exact ⟨hb, m, hm, g1, g2, d, l1, l2, hF, g3, g4, d', l3, l4, .inr ⟨b, cap, cur, rfl, hA, h1, h2, h3, h4⟩, hs⟩
/-- s[i].f = u, s[i] = u. -/
theorem sre {E n bb i j : Nat} {us us' : List Value} {Γ' : List Assn} {u : Value} (hx : ev st x = some (.pointer (some ⟨vb v, el (vo v) i e.sz j, none⟩))) [hs : SelS Γ v E e L Γ'] [hz : ESize c.P T n bb] (h : JS c ops rs l k (stput d undef st) (sl E e v (L.set i (e.dec us')) :: Γ')) (hy : ev st y = some u := by rfl) (hb : i < L.length := by omega)
    (hvs : u.cells = ⟨us⟩ := by rfl) (hn : us.length = n := by rfl) (hone : us.all one = true := by rfl) (hp : PutN (e.enc (L.getD i e.dflt)) j us us' := by (repeat constructor)) (he : e.enc (e.dec us') = us' := by rfl) (hg : gOk ops st ⟨d, .store T x y, ty, pos, af, g⟩ = some true := by rfl) (hd : dOk d c.n = true := by rfl) : JR c ops (⟨⟨d, .store T x y, ty, pos, af, g⟩, false, rs⟩ :: l) k st Γ := by
  intro b' cs a w h1 h2 h3 h4
  unfold CR
  simp only [gOk_wanted hg h3, if_true, Bool.false_eq_true, if_false]
  obtain ⟨cap, cur, e1, e1', hS, e3, e4, e5, e6⟩ := sl_open (h4.perm hs.h.perm) hb
  obtain ⟨hp1, hp2, hp3⟩ := hp.get
  rw [e.len] at hp1 hp2
  have hjn : i * e.sz + e.sz ≤ L.length * e.sz := by
    have : (i + 1) * e.sz ≤ L.length * e.sz := Nat.mul_le_mul_right _ hb
    rwa [Nat.succ_mul] at this
  have hcap : L.length * e.sz ≤ cap * e.sz := Nat.mul_le_mul_right _ e3
  have hcl : cur.toList.length = cap * e.sz := by simpa using e5
  have hcg : ∀ q, q < L.length * e.sz → cur.toList[q]? = (flat e L)[q]? := fun q hq => by rw [← e6, List.getElem?_take, if_pos hq]
  -- the row behind the store
  let cl2 := cur.toList.take (i * e.sz) ++ us' ++ cur.toList.drop ((i + 1) * e.sz)
  have hcl2 : cl2.length = cur.toList.length := by
    simp only [cl2, List.length_append, List.length_take, List.length_drop, hp2, hcl, Nat.succ_mul]; omega
  have hget : ∀ q, cl2[q]? = if i * e.sz + j ≤ q ∧ q < i * e.sz + j + us.length then us[q - (i * e.sz + j)]? else cur.toList[q]? := by
    intro q
    have hlt : (cur.toList.take (i * e.sz)).length = i * e.sz := by rw [List.length_take, hcl]; omega
    simp only [cl2]
    by_cases q1 : q < i * e.sz
    · rw [List.append_assoc, List.getElem?_append_left (by rw [hlt]; exact q1), List.getElem?_take, if_pos q1, if_neg (by omega)]
    · by_cases q2 : q < i * e.sz + e.sz
      · rw [List.getElem?_append_left (by rw [List.length_append, hlt, hp2]; exact q2), List.getElem?_append_right (by rw [hlt]; omega), hlt, hp3 (q - i * e.sz)]
        by_cases q3 : j ≤ q - i * e.sz ∧ q - i * e.sz < j + us.length
        · rw [if_pos q3, if_pos (by omega), show q - (i * e.sz + j) = q - i * e.sz - j by omega]
        · rw [if_neg q3, if_neg (by omega)]
          have h8 := flat_get (e := e) L i (q - i * e.sz) hb (by omega)
          rw [show i * e.sz + (q - i * e.sz) = q by omega] at h8
          rw [hcg q (by omega), h8]
      · rw [List.getElem?_append_right (by rw [List.length_append, hlt, hp2]; omega), List.length_append, hlt, hp2, List.getElem?_drop, if_neg (by omega)]
        congr 1
        rw [Nat.succ_mul]; omega
  obtain ⟨w', hr, hh, f1, f2, f3⟩ := run_storeCells (P := c.P) (b := vb v) (E := E) (o := el (vo v) i e.sz j) us 0 cur.toList cl2 w hone (hS.blk .here).2 (by rw [e1']; unfold el; omega) hcl2 (fun q => by
    rw [hget q, e1']
    have : el 0 i e.sz j + 0 = i * e.sz + j := by unfold el; omega
    rw [this])
  have : (execOp a.eval ⟨d, .store T x y, ty, pos, af, g⟩).run c.P w = .ok .skip w' := by
    simp [execOp, ev_eval h3 hx, ev_eval h3 hy, Instr.storeAt, Instr.sureAddr, storeVar, hvs, run_sizeOf (szOf_of hz.h), hn, hr]
  rw [this]
  have hlen : (L.set i (e.dec us')).length = L.length := by simp
  have hS' := sl_close (e := e) (cap := cap) (L := L.set i (e.dec us')) (hS.write hh f1 f2 f3) (by rw [hlen]; exact e3) e4 (by simp [hcl2, e5]) (by
    rw [hlen, flat_set L i hb, he, ← e6]
    show cl2.take (L.length * e.sz) = _
    simp only [cl2]
    have hA : (cur.toList.take (i * e.sz)).length = i * e.sz := by rw [List.length_take, hcl]; omega
    rw [List.take_append, List.length_append, hA, hp2, List.take_of_length_le (l := cur.toList.take (i * e.sz) ++ us') (by rw [List.length_append, hA, hp2]; omega), List.take_take, Nat.min_eq_left (by omega), List.drop_take]
    congr 2
    rw [Nat.succ_mul])
  rw [hlen, ← e1] at hS'
  exact JS_of h h1 h2 (h3.put hd _) hS'
end
end Go.Proofs.YtaeefjcbmkiiaaaGreatDoor.Sl
