/- Slices made and grown: literals, append, slicing; structs built. -/
import Derived.Test.YtaeefjcbmkiiaaaGreatDoorSl7
namespace Go.Proofs.YtaeefjcbmkiiaaaGreatDoor.Sl
open Go Go.RowKit

/-! ### filling -/
theorem foldl_put : ∀ (cs : List Value) (j off : Nat) (A : Array Value), off + j + cs.length ≤ A.size →
    ((cs.zipIdx j).foldl (fun (a : Array Value) (p : Value × Nat) => a.setIfInBounds (off + p.2) p.1) A).toList = A.toList.take (off + j) ++ cs ++ A.toList.drop (off + j + cs.length)
  | [], j, off, A, h => by simp
  | v :: cs, j, off, A, h => by
    simp only [List.length_cons] at h
    simp only [List.zipIdx_cons, List.foldl_cons]
    rw [foldl_put cs (j + 1) off _ (by simp; omega)]
    have hlt : off + j < A.toList.length := by simp; omega
    simp only [Array.toList_setIfInBounds]
    rw [List.drop_set, if_pos (by omega), show off + (j + 1) = off + j + 1 by omega, List.take_succ_eq_append_getElem (by simp; omega), List.take_set_of_le (Nat.le_refl _), List.getElem_set_self]
    simp only [List.append_assoc, List.cons_append, List.nil_append, List.length_cons]
    congr 3
    congr 1
    omega

/-- The parts of a literal, in their order, as the values of a type. -/
inductive Parts (st : St) {α : Type} (e : EncT α) : Nat → List (Nat × Operand) → List α → Prop
  | nil {i : Nat} : Parts st e i [] []
  | cons {i : Nat} {x : Operand} {u : Value} {cs : List Value} {r : List (Nat × Operand)} {X : List α} : ev st x = some u → u.cells = ⟨cs⟩ → e.enc (e.dec cs) = cs → Parts st e (i + 1) r X → Parts st e i ((i, x) :: r) (e.dec cs :: X)
  | cona {i : Nat} {x : Operand} {u : Value} {a : α} {r : List (Nat × Operand)} {X : List α} : ev st x = some u → u.cells = ⟨e.enc a⟩ → Parts st e (i + 1) r X → Parts st e i ((i, x) :: r) (a :: X)

theorem fill_parts {α : Type} {e : EncT α} {n : Nat} {st : St} {a : Act} (ha : Agree n st a) : ∀ (r : List (Nat × Operand)) (i : Nat) (X : List α) (A : Array Value), Parts st e i r X → A.size = (i + X.length) * e.sz →
    Instr.fill (fun i => some (i * e.sz, e.sz)) A (r.map fun p => (p.1, a.eval p.2)) = some ⟨A.toList.take (i * e.sz) ++ flat e X⟩ := by
  intro r i X A h
  induction h generalizing A with
  | nil =>
    intro hs
    simp only [List.map_nil, Instr.fill, flat_nil, List.append_nil]
    rw [List.take_of_length_le (by simp at hs ⊢; omega)]
  | @cons i x u cs r X hv hc he _ ih =>
    intro hs
    have hcs : cs.length = e.sz := by rw [← he]; exact e.len _
    simp only [List.length_cons] at hs
    have hsz : i * e.sz + e.sz ≤ A.size := by
      rw [hs]
      have : (i + 1) * e.sz ≤ (i + (X.length + 1)) * e.sz := Nat.mul_le_mul_right _ (by omega)
      rwa [Nat.succ_mul] at this
    simp only [List.map_cons, Instr.fill, ev_eval ha hv, hc]
    have hcz : (⟨cs⟩ : Array Value).size = e.sz := hcs
    simp only [hcz]
    rw [if_neg (by simp; omega)]
    have hf := foldl_put cs 0 (i * e.sz) A (by omega)
    have hz : (⟨cs⟩ : Array Value).zipIdx.foldl (fun (a : Array Value) (p : Value × Nat) => a.setIfInBounds (i * e.sz + p.2) p.1) A = ⟨A.toList.take (i * e.sz) ++ cs ++ A.toList.drop (i * e.sz + e.sz)⟩ := by
      rw [← Array.foldl_toList, ← Array.toList_inj]
      simp only [Nat.add_zero, hcs] at hf
      rw [show (⟨cs⟩ : Array Value).zipIdx.toList = cs.zipIdx from Array.toList_zipIdx ..]
      exact hf
    rw [show (fun cs (x : Value × Nat) => match x with | (c, j) => cs.setIfInBounds (i * e.sz + j) c) = fun (a : Array Value) (p : Value × Nat) => a.setIfInBounds (i * e.sz + p.2) p.1 from rfl, hz]
    have hl1 : (A.toList.take (i * e.sz)).length = i * e.sz := by simp; omega
    rw [ih _ (by simp [hcs]; rw [hs] at hsz ⊢; rw [show i + (X.length + 1) = i + 1 + X.length by omega]; have := hsz; rw [show i + (X.length + 1) = i + 1 + X.length by omega] at this; omega)]
    congr 2
    rw [flat_cons, he]
    simp only []
    rw [List.take_append, List.length_append, hl1, hcs, Nat.succ_mul, List.take_of_length_le (l := A.toList.take (i * e.sz) ++ cs) (by rw [List.length_append, hl1, hcs]; exact Nat.le_refl _), Nat.sub_self, List.take_zero, List.append_nil, List.append_assoc]
  | @cona i x u a' r X hv hc _ ih =>
    intro hs
    obtain ⟨cs, hcse⟩ : ∃ cs, e.enc a' = cs := ⟨_, rfl⟩
    have he := hcse
    rw [hcse] at hc
    have hcs : cs.length = e.sz := by rw [← he]; exact e.len _
    simp only [List.length_cons] at hs
    have hsz : i * e.sz + e.sz ≤ A.size := by
      rw [hs]
      have : (i + 1) * e.sz ≤ (i + (X.length + 1)) * e.sz := Nat.mul_le_mul_right _ (by omega)
      rwa [Nat.succ_mul] at this
    simp only [List.map_cons, Instr.fill, ev_eval ha hv, hc]
    have hcz : (⟨cs⟩ : Array Value).size = e.sz := hcs
    simp only [hcz]
    rw [if_neg (by simp; omega)]
    have hf := foldl_put cs 0 (i * e.sz) A (by omega)
    have hz : (⟨cs⟩ : Array Value).zipIdx.foldl (fun (a : Array Value) (p : Value × Nat) => a.setIfInBounds (i * e.sz + p.2) p.1) A = ⟨A.toList.take (i * e.sz) ++ cs ++ A.toList.drop (i * e.sz + e.sz)⟩ := by
      rw [← Array.foldl_toList, ← Array.toList_inj]
      simp only [Nat.add_zero, hcs] at hf
      rw [show (⟨cs⟩ : Array Value).zipIdx.toList = cs.zipIdx from Array.toList_zipIdx ..]
      exact hf
    rw [show (fun cs (x : Value × Nat) => match x with | (c, j) => cs.setIfInBounds (i * e.sz + j) c) = fun (a : Array Value) (p : Value × Nat) => a.setIfInBounds (i * e.sz + p.2) p.1 from rfl, hz]
    have hl1 : (A.toList.take (i * e.sz)).length = i * e.sz := by simp; omega
    rw [ih _ (by simp [hcs]; rw [hs] at hsz ⊢; rw [show i + (X.length + 1) = i + 1 + X.length by omega]; have := hsz; rw [show i + (X.length + 1) = i + 1 + X.length by omega] at this; omega)]
    congr 2
    rw [flat_cons, he]
    simp only []
    rw [List.take_append, List.length_append, hl1, hcs, Nat.succ_mul, List.take_of_length_le (l := A.toList.take (i * e.sz) ++ cs) (by rw [List.length_append, hl1, hcs]; exact Nat.le_refl _), Nat.sub_self, List.take_zero, List.append_nil, List.append_assoc]

section
variable {c : Ctx} {k : List Item} {st : St} {Γ : List Assn} {d : Option Tmp} {ty : TypeId} {pos : String} {af : Array Edge} {g : Option (Nat × Bool)} {ops : Array Oper} {rs : List Oper} {l : List Stp} {fl : Bool}
variable {x y : Operand} {T U : TypeId} {α : Type} {e : EncT α} {v : Value} {L X : List α}

theorem sl_new {B w : World} {F : Assn} (hS : Sat B F Γ w) {E cap : Nat} {cur : Array Value} (h1 : L.length ≤ cap) (h2 : cap ≤ maxLen) (h3 : cur.size = cap * e.sz) (h4 : cur.toList.take (L.length * e.sz) = flat e L) :
    Sat B F (sl E e (.slice (some ⟨w.heap.size, 0, none⟩) L.length cap) L :: Γ) (w.alloc (.cells cur E (0, 0))) :=
  sl_close (hS.alloc _) h1 h2 h3 h4
theorem sl_nil {B w : World} {F : Assn} (hS : Sat B F Γ w) {E : Nat} : Sat B F (sl E e (.slice none 0 0) ([] : List α) :: Γ) w :=
  hS.imp fun m hs => ⟨Hp.empty, m, fun _ => .inl rfl, fun _ _ e => (by cases e), Hp.le_refl _, .inl ⟨rfl, rfl⟩, hs⟩

/-- A slice literal, all its elements written. -/
theorem bsl {E n bb : Nat} {parts : List (Nat × Operand)} {z : Value} [ht : TSlice c.P T E] [he : TEnc E e] [hz : ESize c.P E e.sz bb] [hZ : TZero c.P E z] (h : ∀ v, JS c ops rs l k (stput d v st) (sl E e v X :: Γ)) (hp : Parts st e 0 parts X := by (repeat constructor))
    (hn : X.length = n := by rfl) (hb : n * e.sz ≤ 16777216 := by decide) (hzl : z.cells.size = e.sz := by rfl) (hg : gOk ops st ⟨d, .buildSlice T n ⟨parts⟩, ty, pos, af, g⟩ = some true := by rfl) (hd : dOk d c.n = true := by rfl) : JR c ops (⟨⟨d, .buildSlice T n ⟨parts⟩, ty, pos, af, g⟩, false, rs⟩ :: l) k st Γ := by
  intro b cs a w h1 h2 h3 h4
  unfold CR
  simp only [gOk_wanted hg h3, if_true, Bool.false_eq_true, if_false]
  have hpos := e.pos
  have : (execOp a.eval ⟨d, .buildSlice T n ⟨parts⟩, ty, pos, af, g⟩).run c.P w = .ok (.value (.slice (some ⟨w.heap.size, 0, none⟩) X.length n)) (w.alloc (.cells ⟨flat e X⟩ E (0, 0))) := by
    have hz0 : ∀ (A : Array Value), A.size = (0 + X.length) * e.sz → Instr.fill (fun i => some (i * e.sz, e.sz)) A (parts.map fun p => (p.1, a.eval p.2)) = some ⟨flat e X⟩ := fun A hA => by
      rw [fill_parts h3 parts 0 X A hp hA]; simp
    simp only [execOp, Instr.buildSlice, Sem.run_bind, run_underlying ht.h, Result.andThen_ok, run_sizeOf (szOf_of hz.h), Sem.run_ite, run_zeroValue hZ.z, Sem.run_pure, Result.andThen_ite]
    rw [if_neg (by omega)]
    have hm : (((⟨parts⟩ : Array (Nat × Operand)).map fun (p : Nat × Operand) => (p.1, a.eval p.2)).toList) = parts.map fun p => (p.1, a.eval p.2) := by simp
    by_cases h0 : n * e.sz = 0
    · simp only [h0, if_true]
      rw [show ((⟨parts⟩ : Array (Nat × Operand)).map fun x => match x with | (i, x) => (i, a.eval x)).toList = parts.map fun p => (p.1, a.eval p.2) from hm]
      rw [hz0 _ (by simp [hn, h0])]
      simp [newRow, hn]
    · simp only [h0, if_false]
      rw [show ((⟨parts⟩ : Array (Nat × Operand)).map fun x => match x with | (i, x) => (i, a.eval x)).toList = parts.map fun p => (p.1, a.eval p.2) from hm]
      rw [hz0 _ (by simp [hn])]
      simp [newRow, hn]
  rw [this]
  refine JS_of (h _) h1 h2 (h3.put hd _) ?_
  subst hn
  exact sl_new h4 (Nat.le_refl _) (by unfold maxLen; have : X.length ≤ X.length * e.sz := Nat.le_mul_of_pos_right _ hpos; omega) (by simp [flat_length]) (by rw [← flat_length, List.take_length])

/-! ### append -/
theorem run_append_none {P : Program} {w : World} {t ty E : TypeId} {sz : Nat} (ht : P.underlying t = some (.slice E)) (hs : szOf P E = some sz) (p : Option Addr) (n cap m : Nat) (hn : n ≤ cap) :
    (Builtin.append_ #[t, t] ty #[.slice p n cap, .slice none 0 m]).run P w = .ok (.slice p n cap) w := by
  cases p <;> simp [Builtin.append_, run_underlying ht, run_sizeOf hs, Builtin.lenOf, hn, Builtin.firstCells, storeCells]
theorem setRow_heap_eq {w : World} {g : Nat} {old cs : Array Value} {E : TypeId} (hg : w.heap[g]? = some (.cells old E (0, 0))) : (w.setRow g cs).heap = w.heap.setIfInBounds g (.cells cs E (0, 0)) := by
  have hlt : g < w.heap.size := (Array.getElem?_eq_some_iff.1 hg).1
  apply Array.ext_getElem?
  intro j
  by_cases e : g = j
  · subst e; rw [setRow_heap w g old cs E (0, 0) hg]; simp [hlt]
  · rw [setRow_other w g j cs (Ne.symm e), Array.getElem?_setIfInBounds_ne e]

/-- The target of an append: nothing, or a row of its own; as it stands ahead of it. -/
def Tgt {α : Type} (E : TypeId) (e : EncT α) (t : Value) (K : List α) (Γ : List Assn) (B : World) (F : Assn) (w : World) : Prop :=
  (t = .slice none 0 0 ∧ K = [] ∧ Sat B F Γ w) ∨ ∃ g cap cur, t = .slice (some ⟨g, 0, none⟩) K.length cap ∧ Sat B F (blk g (.cells cur E (0, 0)) :: Γ) w ∧ K.length ≤ cap ∧ cap ≤ maxLen ∧ cur.size = cap * e.sz ∧ cur.toList.take (K.length * e.sz) = flat e K

theorem run_append_tgt {B w : World} {F : Assn} {P : Program} {E bb : Nat} {z : Value} {t s : Value} {K : List α} {tT ty : TypeId} (ht : P.underlying tT = some (.slice E)) (hz : (P.info? E).map (fun i => (i.size, i.bytes)) = some (e.sz, bb)) (hZ : (P.info? E).bind (·.zero) = some z) (hzl : z.cells.size = e.sz)
    (hT : Tgt E e t K Γ B F w) (hX : RdW w e s X) (hb : (K.length + X.length) * bb ≤ 140737488355328) (h63 : K.length + X.length ≤ maxLen) :
    ∃ v' w', (Builtin.append_ #[tT, tT] ty #[t, s]).run P w = .ok v' w' ∧ Sat B F (sl E e v' (K ++ X) :: Γ) w' := by
  obtain ⟨i, hi, hib⟩ := Option.map_eq_some_iff.1 hz
  have hZ' : i.zero = some z := by rw [hi] at hZ; exact hZ
  simp only [Prod.mk.injEq] at hib
  obtain ⟨hi1, hi2⟩ := hib
  have h63' := h63
  unfold maxLen at h63
  have hlenKX : (K ++ X).length = K.length + X.length := List.length_append
  have grown : ∀ (old : Nat) (w0 : World), Sat B F Γ w → w0 = w.drew → Sat B F (sl E e (.slice (some ⟨w.heap.size, 0, none⟩) (K.length + X.length) (grownCap w (K.length + X.length) old E)) (K ++ X) :: Γ)
      (w0.alloc (.cells ((flat e K).toArray ++ (flat e X).toArray ++ Builtin.zeroCells z.cells (grownCap w (K.length + X.length) old E - (K.length + X.length))) E)) := by
    intro old w0 hS hw0
    subst hw0
    have hge := grownCap_ge w (K.length + X.length) old E
    have := sl_new (e := e) (L := K ++ X) (E := E) (cap := grownCap w (K.length + X.length) old E) (cur := (flat e K).toArray ++ (flat e X).toArray ++ Builtin.zeroCells z.cells (grownCap w (K.length + X.length) old E - (K.length + X.length))) hS.drew (by rw [hlenKX]; exact hge) (grownCap_le_maxLen w _ old E h63') (by
      simp only [Array.size_append, List.size_toArray, size_zeroCells, hzl, flat_length, ← Nat.add_mul]
      congr 1; omega) (by
      simp only [Array.toList_append, List.append_assoc]
      rw [← List.append_assoc, ← flat_append, ← flat_length]
      exact List.take_left)
    rw [hlenKX] at this
    exact this
  rcases hX with ⟨rfl, rfl⟩ | ⟨xb, xo, xc, xcur, xE, xfz, rfl, hxc, hxh, hxg⟩
  · -- nothing to append
    rcases hT with ⟨rfl, rfl, hS⟩ | ⟨g, cap, cur, rfl, hS, h1, h2, h3, h4⟩
    · exact ⟨_, w, run_append_none ht (szOf_of hz) none 0 0 0 (Nat.le_refl _), by simpa using sl_nil hS⟩
    · refine ⟨_, w, run_append_none ht (szOf_of hz) _ _ _ 0 h1, ?_⟩
      simp only [List.append_nil]
      exact sl_close hS h1 h2 h3 h4
  · have hnews : ∀ j u, (flat e X)[j]? = some u → w.cell? ((⟨xb, xo, none⟩ : Addr).add j) = some u := by
      intro j u hu
      have hj : j < X.length * e.sz := by
        rw [← flat_length]
        rcases Nat.lt_or_ge j (flat e X).length with h | h
        · exact h
        · rw [List.getElem?_eq_none h] at hu; cases hu
      rw [add_none]
      exact cell_of (l := xcur.toList) hxh (by rw [hxg j hj, hu])
    rcases hT with ⟨rfl, rfl, hS⟩ | ⟨g, cap, cur, rfl, hS, h1, h2, h3, h4⟩
    · by_cases hx0 : X.length = 0
      · obtain rfl := List.length_eq_zero_iff.1 hx0
        refine ⟨.slice none 0 0, w, ?_, by simpa using sl_nil hS⟩
        simp [Builtin.append_, run_underlying ht, run_sizeOf (szOf_of hz), Builtin.lenOf, Builtin.firstCells, loadCells, loadCellsFrom]
      · have hr := run_append_nil (P := P) w tT ty E i z ht hi hZ' ⟨xb, xo, none⟩ X.length xc (flat e X) (by rw [flat_length, hi1]) hnews (by omega) (by omega) (by rw [hi2]; simp at hb; omega)
        refine ⟨_, _, hr, ?_⟩
        have := grown 0 w.drew hS rfl
        simpa [flat_nil] using this
    · have hg := (hS.blk .here).2
      by_cases hroom : K.length + X.length ≤ cap
      · have hfit : K.length * i.size + (flat e X).length ≤ cur.size := by rw [flat_length, h3, hi1, ← Nat.add_mul]; exact Nat.mul_le_mul_right _ hroom
        have hr := run_append_room (P := P) w tT ty E i ht hi g K.length cap cur hg ⟨xb, xo, none⟩ X.length xc (flat e X) (by rw [flat_length, hi1]) hnews (flat_ok X) hroom hfit
        refine ⟨_, _, hr, ?_⟩
        have := sl_close (e := e) (L := K ++ X) (cap := cap) (cur := (cur.toList.take (K.length * i.size) ++ flat e X ++ cur.toList.drop (K.length * i.size + (flat e X).length)).toArray) (hS.write (setRow_heap_eq hg) rfl rfl rfl) (by rw [hlenKX]; exact hroom) h2 (by
          rw [hi1] at hfit
          simp only [hi1, flat_length, List.size_toArray, List.length_append, List.length_take, List.length_drop, Array.length_toList]
          rw [flat_length] at hfit
          omega) (by
          show List.take _ (cur.toList.take (K.length * i.size) ++ flat e X ++ cur.toList.drop (K.length * i.size + (flat e X).length)) = _
          rw [hi1, h4, ← flat_append, ← flat_length]
          exact List.take_left)
        rw [hlenKX] at this
        exact this
      · have holds : ∀ j u, (flat e K)[j]? = some u → w.cell? ((⟨g, 0, none⟩ : Addr).add j) = some u := by
          intro j u hu
          have hj : j < K.length * e.sz := by
            rw [← flat_length]
            rcases Nat.lt_or_ge j (flat e K).length with h | h
            · exact h
            · rw [List.getElem?_eq_none h] at hu; cases hu
          rw [add_none, Nat.zero_add]
          refine cell_of (l := cur.toList) hg ?_
          rw [← h4, List.getElem?_take, if_pos hj] at hu
          exact hu
        have hr := run_append_grow (P := P) w tT ty E i z ht hi hZ' ⟨g, 0, none⟩ K.length cap (flat e K) (by rw [flat_length, hi1]) holds ⟨xb, xo, none⟩ X.length xc (flat e X) (by rw [flat_length, hi1]) hnews (by omega) (by omega) (by rw [hi2]; exact growslice_fits (by omega) hb)
        exact ⟨_, _, hr, grown cap w.drew hS.tail rfl⟩

theorem tgt_sl {B w : World} {F : Assn} {E : TypeId} (hS : Sat B F (sl E e v L :: Γ) w) : Tgt E e v L Γ B F w := by
  obtain ⟨hb, m, hm, h1, h2, d, l1, l2, hF, h3, h4, d', l3, l4, hA, hs⟩ := hS
  rcases hA with ⟨rfl, rfl⟩ | ⟨g, cap, cur, rfl, e2, e3, e4, e5, e6⟩
  · exact .inl ⟨rfl, rfl, hb, m, hm, h1, h2, d, l1, l2, hF, sat_mono l4 hs⟩
  · exact .inr ⟨g, cap, cur, rfl, ⟨hb, m, hm, h1, h2, d, l1, l2, hF, h3, h4, d', l3, l4, e2, hs⟩, e3, e4, e5, e6⟩
theorem tgt_take {B w : World} {F : Assn} {E : TypeId} {n : Nat} (hn : n ≤ L.length) (h : Tgt E e v L Γ B F w) : Tgt E e (vw v 0 n e.sz) (L.take n) Γ B F w := by
  have hl : (L.take n).length = n := by simp; omega
  rcases h with ⟨rfl, rfl, hS⟩ | ⟨g, cap, cur, rfl, hS, h1, h2, h3, h4⟩
  · simp at hn; subst hn
    exact .inl ⟨by simp [vw], by simp, hS⟩
  · refine .inr ⟨g, cap, cur, ?_, hS, by rw [hl]; omega, h2, h3, ?_⟩
    · unfold vw
      simp only [hl, Nat.sub_zero, Nat.zero_mul]
      by_cases hc : cap = 0
      · simp [hc]
      · simp [hc, Addr.add]
    · rw [hl, flat_take, ← h4, List.take_take, Nat.min_eq_left (Nat.mul_le_mul_right _ hn)]

/-- append(s, xs...): s owned; xs read, of what is not s's own. -/
theorem apd {E bb : Nat} {z s : Value} {K : List α} {Γ' : List Assn} [ht : TSlice c.P T E] [hz : ESize c.P E e.sz bb] [hZ : TZero c.P E z] (hx : ev st x = some v) (hy : ev st y = some s)
    (hT : ∀ B F w, Sat B F Γ w → Tgt E e v K Γ' B F w) (hX : ∀ B F w, Sat B F Γ w → RdW w e s X) (h : ∀ v', JS c ops rs l k (stput d v' st) (sl E e v' (K ++ X) :: Γ')) (hb : (K.length + X.length) * bb ≤ 140737488355328) (hm : K.length + X.length ≤ 9223372036854775807) (hzl : z.cells.size = e.sz := by rfl)
    (hg : gOk ops st ⟨d, .call ⟨.builtin .append, #[x, y], #[T, T]⟩, ty, pos, af, g⟩ = some true := by rfl) (hd : dOk d c.n = true := by rfl) : JR c ops (⟨⟨d, .call ⟨.builtin .append, #[x, y], #[T, T]⟩, ty, pos, af, g⟩, false, rs⟩ :: l) k st Γ := by
  intro b cs a w h1 h2 h3 h4
  unfold CR
  simp only [gOk_wanted hg h3, if_true, Bool.false_eq_true, if_false]
  obtain ⟨v', w', hr, hS⟩ := run_append_tgt (ty := ty) ht.h hz.h hZ.z hzl (hT _ _ _ h4) (hX _ _ _ h4) hb (by unfold maxLen; exact hm)
  rw [run_builtin (vs := [v, s]) (by simp [ev_eval h3 hx, ev_eval h3 hy]) (r := .ok (.value v') w') (fun cs => by simp [builtin, hr])]
  exact JS_of (h v') h1 h2 (h3.put hd _) hS

/-! ### slicing -/
theorem RO_slice {lo hi : Option Operand} {E : TypeId} {A Bq : Nat} [ht : TSlice c.P T E] {sz bb : Nat} [hz : ESize c.P E sz bb] (hv : ev st x = some v)
    (hlo : match lo with | none => A = 0 | some q => ∃ i, ev st q = some (.int i A)) (hhi : match hi with | none => ∀ p n m, v = .slice p n m → Bq = n | some q => ∃ i, ev st q = some (.int i Bq)) (hr : ∀ w, Sat c.B c.F Γ w → ∃ p n m, v = .slice p n m ∧ n ≤ m ∧ A ≤ Bq ∧ Bq ≤ m) :
    RO c st Γ ⟨d, .slice T x lo hi none, ty, pos, af, g⟩ (vw v A Bq sz) := fun a w ha hS => by
  obtain ⟨p, n, m, rfl, hnm, h1, h2⟩ := hr w hS
  have e1 : ∀ (q : Operand) (i : IntKind) (N : Nat), ev st q = some (.int i N) → a.eval q = .int i N := fun q i N h => ev_eval ha h
  have f1 : ∀ (i : IntKind) (N M : Nat) (code : BoundsCode), N ≤ M → (Instr.sliceBound (.int i N) M code).run c.P w = .ok N w := fun i N M code h => by
    have := run_sliceB (P := c.P) (w := w) (j := i) (i := N) (y := M) (code := code) (by omega)
    simpa using this
  simp only [execOp, ev_eval ha hv, Instr.sliceAt, Instr.slice, Sem.run_bind, run_underlying ht.h, Result.andThen_ok, Instr.sliceBounds, Option.map_none, run_sizeOf (szOf_of hz.h)]
  cases lo with
  | none =>
    dsimp only at hlo
    subst hlo
    cases hi with
    | none => have := hhi p n m rfl; subst this; simp [vw, run_sizeOf (szOf_of hz.h)]
    | some q => obtain ⟨i, hq⟩ := hhi; simp [e1 q i Bq hq, f1 i Bq m _ h2, vw, run_sizeOf (szOf_of hz.h)]
  | some q0 =>
    obtain ⟨i0, hq0⟩ := hlo
    cases hi with
    | none => have := hhi p n m rfl; subst this; simp [e1 q0 i0 A hq0, f1 i0 A Bq _ h1, vw, run_sizeOf (szOf_of hz.h)]
    | some q => obtain ⟨i, hq⟩ := hhi; simp [e1 q0 i0 A hq0, e1 q i Bq hq, f1 i Bq m _ h2, f1 i0 A Bq _ h1, vw, run_sizeOf (szOf_of hz.h)]

theorem RdW.cap {w : World} (h : RdW w e v L) : ∃ p m, v = .slice p L.length m ∧ L.length ≤ m := by
  rcases h with ⟨h1, h2⟩ | ⟨b, off, cap, cur, E, fz, h1, h2, h3, h4⟩
  · exact ⟨none, 0, by rw [h1, h2]; rfl, by rw [h2]; exact Nat.le_refl _⟩
  · exact ⟨_, cap, h1, h2⟩
/-- s[i:j], s[i:], s[:j], of a slice that is read: within its length. -/
theorem sli {lo hi : Operand} {i j : IntKind} {m n : Int} {E bb : Nat} [ht : TSlice c.P T E] (hv : ev st x = some v) [hr : RdG Γ v e L] [hz : ESize c.P E e.sz bb] (h : JR c ops l k (stput d (vw v m.toNat n.toNat e.sz) st) Γ) (hl : ev st lo = some (.int i m) := by rfl) (hh : ev st hi = some (.int j n) := by rfl) (hb : 0 ≤ m ∧ m ≤ n ∧ n ≤ L.length := by omega)
    (hg : gOk ops st ⟨d, .slice T x (some lo) (some hi) none, ty, pos, af, g⟩ = some true := by rfl) (hd : dOk d c.n = true := by rfl) : JR c ops (⟨⟨d, .slice T x (some lo) (some hi) none, ty, pos, af, g⟩, fl, []⟩ :: l) k st Γ :=
  ro h (RO_slice (sz := e.sz) hv ⟨i, by rw [hl, Int.toNat_of_nonneg hb.1]⟩ ⟨j, by rw [hh, Int.toNat_of_nonneg (by omega)]⟩ fun w hS => by
    obtain ⟨p, M, h1, h2⟩ := (hr.h _ _ _ hS).cap
    exact ⟨p, _, M, h1, h2, by omega, by omega⟩) hg hd
theorem slil {lo : Operand} {i : IntKind} {m : Int} {E bb : Nat} [ht : TSlice c.P T E] (hv : ev st x = some v) [hr : RdG Γ v e L] [hz : ESize c.P E e.sz bb] (h : JR c ops l k (stput d (vw v m.toNat L.length e.sz) st) Γ) (hl : ev st lo = some (.int i m) := by rfl) (hb : 0 ≤ m ∧ m ≤ L.length := by omega)
    (hg : gOk ops st ⟨d, .slice T x (some lo) none none, ty, pos, af, g⟩ = some true := by rfl) (hd : dOk d c.n = true := by rfl) : JR c ops (⟨⟨d, .slice T x (some lo) none none, ty, pos, af, g⟩, fl, []⟩ :: l) k st Γ := by
  refine ro h (fun a w ha hS => ?_) hg hd
  obtain ⟨p, M, h1, h2⟩ := (hr.h _ _ _ hS).cap
  exact RO_slice (c := c) (Γ := Γ) (sz := e.sz) (lo := some lo) (hi := none) hv ⟨i, by rw [hl, Int.toNat_of_nonneg hb.1]⟩ (fun p' n' m' he => by rw [h1] at he; cases he; rfl) (fun w hS => by
    obtain ⟨p, M, h1, h2⟩ := (hr.h _ _ _ hS).cap
    exact ⟨p, _, M, h1, h2, by omega, h2⟩) a w ha hS
theorem slih {hi : Operand} {j : IntKind} {n : Int} {E bb : Nat} [ht : TSlice c.P T E] (hv : ev st x = some v) [hr : RdG Γ v e L] [hz : ESize c.P E e.sz bb] (h : JR c ops l k (stput d (vw v 0 n.toNat e.sz) st) Γ) (hh : ev st hi = some (.int j n) := by rfl) (hb : 0 ≤ n ∧ n ≤ L.length := by omega)
    (hg : gOk ops st ⟨d, .slice T x none (some hi) none, ty, pos, af, g⟩ = some true := by rfl) (hd : dOk d c.n = true := by rfl) : JR c ops (⟨⟨d, .slice T x none (some hi) none, ty, pos, af, g⟩, fl, []⟩ :: l) k st Γ :=
  ro h (RO_slice (sz := e.sz) (lo := none) hv rfl ⟨j, by rw [hh, Int.toNat_of_nonneg hb.1]⟩ fun w hS => by
    obtain ⟨p, M, h1, h2⟩ := (hr.h _ _ _ hS).cap
    exact ⟨p, _, M, h1, h2, by omega, by omega⟩) hg hd
end
end Go.Proofs.YtaeefjcbmkiiaaaGreatDoor.Sl
