/- Heaps, assertions and their separating conjunction over the machine's worlds: what a walk says of memory, and how it is kept. -/
import Derived.Calls
import Derived.Below
import Derived.KernelRfl
import Derived.Laws.World
namespace Go.Proofs.YtaeefjcbmkiiaaaGreatDoor.Sl
open Go Go.RowKit

/-- A part of the heap: some blocks with what they hold. -/
abbrev Hp := Nat → Option Obj
/-- What is said of a part of the heap; the first: what was there when the law began, and stays (it may be read by all). -/
abbrev Assn := Hp → Hp → Prop

def Hp.disj (h1 h2 : Hp) : Prop := ∀ b, h1 b = none ∨ h2 b = none
def Hp.le (h h' : Hp) : Prop := ∀ b o, h b = some o → h' b = some o
def Hp.union (h1 h2 : Hp) : Hp := fun b => match h1 b with | some o => some o | none => h2 b
def Hp.empty : Hp := fun _ => none
def Hp.one (b : Nat) (o : Obj) : Hp := fun c => if c = b then some o else none

theorem Hp.le_refl (h : Hp) : Hp.le h h := fun _ _ e => e
theorem Hp.le_trans {a b c : Hp} (h : Hp.le a b) (k : Hp.le b c) : Hp.le a c := fun x o e => k x o (h x o e)
theorem Hp.disj_symm {a b : Hp} (h : Hp.disj a b) : Hp.disj b a := fun x => (h x).symm
theorem Hp.disj_le {a b a' b' : Hp} (h : Hp.disj a b) (ha : Hp.le a' a) (hb : Hp.le b' b) : Hp.disj a' b' := by
  intro x
  cases h1 : a' x with
  | none => exact .inl rfl
  | some o =>
    cases h2 : b' x with
    | none => exact .inr rfl
    | some o' =>
      rcases h x with e | e
      · rw [ha _ _ h1] at e; cases e
      · rw [hb _ _ h2] at e; cases e
theorem Hp.le_union_left (a b : Hp) : Hp.le a (Hp.union a b) := fun x o e => by simp [Hp.union, e]
theorem Hp.le_union_right {a b : Hp} (h : Hp.disj a b) : Hp.le b (Hp.union a b) := fun x o e => by
  rcases h x with e' | e'
  · simp [Hp.union, e', e]
  · rw [e'] at e; cases e
theorem Hp.union_le {a b c : Hp} (ha : Hp.le a c) (hb : Hp.le b c) : Hp.le (Hp.union a b) c := fun x o e => by
  unfold Hp.union at e
  cases h1 : a x with
  | none => rw [h1] at e; exact hb _ _ e
  | some o' => rw [h1] at e; cases e; exact ha _ _ h1
theorem Hp.disj_union {a b c : Hp} (h1 : Hp.disj a c) (h2 : Hp.disj b c) : Hp.disj (Hp.union a b) c := fun x => by
  rcases h1 x with e | e
  · rcases h2 x with e' | e'
    · left; simp [Hp.union, e, e']
    · exact .inr e'
  · exact .inr e

/-- All of a list hold, of parts that are apart. -/
def sat : List Assn → Assn
  | [], _, _ => True
  | A :: Γ, r, h => ∃ h1 h2, Hp.disj h1 h2 ∧ Hp.le h1 h ∧ Hp.le h2 h ∧ A r h1 ∧ sat Γ r h2

theorem sat_mono {Γ : List Assn} {r h h' : Hp} (hl : Hp.le h h') (hs : sat Γ r h) : sat Γ r h' := by
  cases Γ with
  | nil => trivial
  | cons A Γ =>
    obtain ⟨h1, h2, d, l1, l2, hA, hG⟩ := hs
    exact ⟨h1, h2, d, Hp.le_trans l1 hl, Hp.le_trans l2 hl, hA, hG⟩
theorem sat_swap {A B : Assn} {Γ : List Assn} {r h : Hp} (hs : sat (A :: B :: Γ) r h) : sat (B :: A :: Γ) r h := by
  obtain ⟨h1, h2, d, l1, l2, hA, h3, h4, d', l3, l4, hB, hG⟩ := hs
  have d14 : Hp.disj h1 h4 := Hp.disj_le d (Hp.le_refl _) l4
  refine ⟨h3, Hp.union h1 h4, ?_, Hp.le_trans l3 l2, Hp.union_le l1 (Hp.le_trans l4 l2), hB, h1, h4, d14, Hp.le_union_left _ _, Hp.le_union_right d14, hA, hG⟩
  exact Hp.disj_symm (Hp.disj_union (Hp.disj_le d (Hp.le_refl _) l3) (Hp.disj_symm d'))
theorem sat_tail {A : Assn} {Γ : List Assn} {r h : Hp} (hs : sat (A :: Γ) r h) : sat Γ r h := by
  obtain ⟨h1, h2, d, l1, l2, hA, hG⟩ := hs
  exact sat_mono l2 hG
theorem sat_head {A : Assn} {Γ : List Assn} {r h : Hp} (hs : sat (A :: Γ) r h) : ∃ h1, Hp.le h1 h ∧ A r h1 := by
  obtain ⟨h1, h2, d, l1, l2, hA, hG⟩ := hs
  exact ⟨h1, l1, hA⟩
theorem sat_congr_tail {A : Assn} {Γ Γ' : List Assn} {r h : Hp} (f : ∀ h, sat Γ r h → sat Γ' r h) (hs : sat (A :: Γ) r h) : sat (A :: Γ') r h := by
  obtain ⟨h1, h2, d, l1, l2, hA, hG⟩ := hs
  exact ⟨h1, h2, d, l1, l2, hA, f _ hG⟩
theorem sat_perm {Γ Γ' : List Assn} (p : Γ.Perm Γ') : ∀ {r h : Hp}, sat Γ r h → sat Γ' r h := by
  induction p with
  | nil => exact fun h => h
  | cons A _ ih => exact fun hs => sat_congr_tail (fun _ => ih) hs
  | swap A B Γ => exact fun hs => sat_swap hs
  | trans _ _ ih1 ih2 => exact fun hs => ih2 (ih1 hs)
/-- Two lists side by side, as one assertion behind the first. -/
theorem sat_append_iff {Γ Δ : List Assn} {r h : Hp} : sat (Γ ++ Δ) r h ↔ sat (Γ ++ [sat Δ]) r h := by
  induction Γ generalizing h with
  | nil =>
    constructor
    · intro hs
      exact ⟨h, Hp.empty, fun _ => .inr rfl, Hp.le_refl _, fun _ _ e => (by cases e), hs, trivial⟩
    · rintro ⟨h1, h2, d, l1, l2, hA, -⟩
      exact sat_mono l1 hA
  | cons A Γ ih =>
    constructor <;> exact fun hs => sat_congr_tail (fun _ => by first | exact ih.1 | exact ih.2) hs

/-- One of a list, and the others. -/
inductive Sel : List Assn → Assn → List Assn → Prop
  | here {A : Assn} {Γ : List Assn} : Sel (A :: Γ) A Γ
  | there {A B : Assn} {Γ Γ' : List Assn} : Sel Γ A Γ' → Sel (B :: Γ) A (B :: Γ')
theorem Sel.perm {Γ : List Assn} {A : Assn} {Γ' : List Assn} (h : Sel Γ A Γ') : Γ.Perm (A :: Γ') := by
  induction h with
  | here => exact .refl _
  | there _ ih => exact (List.Perm.cons _ ih).trans (.swap _ _ _)
/-- Some of a list, and the others. -/
inductive Split : List Assn → List Assn → List Assn → Prop
  | nil {Γ : List Assn} : Split Γ [] Γ
  | cons {Γ Γ1 R : List Assn} {A : Assn} {As : List Assn} : Sel Γ A Γ1 → Split Γ1 As R → Split Γ (A :: As) R
theorem Split.perm {Γ As R : List Assn} (h : Split Γ As R) : Γ.Perm (As ++ R) := by
  induction h with
  | nil => exact .refl _
  | cons s _ ih => exact s.perm.trans (.cons _ ih)

/-- A block and what it holds. -/
def blk (b : Nat) (o : Obj) : Assn := fun _ h => h b = some o
/-- A block that was there when the law began. -/
def rbk (b : Nat) (o : Obj) : Assn := fun r _ => r b = some o
def pur (p : Prop) : Assn := fun _ _ => p
def exA {α : Type} (A : α → Assn) : Assn := fun r h => ∃ x, A x r h
/-- Several, as one. -/
def all (Γ : List Assn) : Assn := sat Γ

/-! ### worlds -/
/-- What was there. -/
def baseHp (B : World) : Hp := fun b => if b < B.heap.size then B.heap[b]? else none
/-- What a walk says of the world: nothing that was there when the law began has turned; of what is new, all of the list hold, and the frame. -/
def Sat (B : World) (F : Assn) (Γ : List Assn) (w : World) : Prop :=
  Below B.heap.size B w ∧ ∃ h : Hp, (∀ b o, h b = some o → B.heap.size ≤ b ∧ w.heap[b]? = some o) ∧ sat (F :: Γ) (baseHp B) h

variable {B : World} {F : Assn} {Γ Γ' : List Assn} {w : World}

theorem Sat.perm (p : Γ.Perm Γ') (h : Sat B F Γ w) : Sat B F Γ' w :=
  let ⟨hb, m, hm, hs⟩ := h; ⟨hb, m, hm, sat_congr_tail (fun _ => sat_perm p) hs⟩
theorem Sat.imp (f : ∀ h, sat Γ (baseHp B) h → sat Γ' (baseHp B) h) (h : Sat B F Γ w) : Sat B F Γ' w :=
  let ⟨hb, m, hm, hs⟩ := h; ⟨hb, m, hm, sat_congr_tail f hs⟩
theorem Sat.tail {A : Assn} (h : Sat B F (A :: Γ) w) : Sat B F Γ w := h.imp fun _ => sat_tail
/-- One of the list, looked at. -/
theorem Sat.peek {A : Assn} (h : Sat B F Γ w) (s : Sel Γ A Γ') : ∃ h1 : Hp, (∀ b o, h1 b = some o → B.heap.size ≤ b ∧ w.heap[b]? = some o) ∧ A (baseHp B) h1 := by
  obtain ⟨hb, m, hm, hs⟩ := h.perm s.perm
  obtain ⟨h1, l1, hA⟩ := sat_head (sat_tail hs)
  exact ⟨h1, fun b o e => hm b o (l1 b o e), hA⟩
theorem Sat.blk {b : Nat} {o : Obj} (h : Sat B F Γ w) (s : Sel Γ (Sl.blk b o) Γ') : B.heap.size ≤ b ∧ w.heap[b]? = some o := by
  obtain ⟨h1, l1, hA⟩ := h.peek s
  exact l1 b o hA
theorem Sat.base (h : Sat B F Γ w) : Below B.heap.size B w := h.1
/-- The world's count of draws, and nothing that the heap holds. -/
theorem Sat.of_heap {w' : World} (h : Sat B F Γ w) (h1 : w'.heap = w.heap) (h2 : w'.os = w.os) (h3 : w'.tape = w.tape) (h4 : w'.output = w.output) : Sat B F Γ w' := by
  obtain ⟨hb, m, hm, hs⟩ := h
  refine ⟨⟨h2.trans hb.os, h3.trans hb.tape, h4.trans hb.output, by rw [h1]; exact hb.size, fun k hk => by rw [h1]; exact hb.block k hk⟩, m, fun b o e => by rw [h1]; exact hm b o e, hs⟩
theorem Sat.drew (h : Sat B F Γ w) : Sat B F Γ { w with drawn := w.drawn + 1 } := h.of_heap rfl rfl rfl rfl
/-- A new block. -/
theorem Sat.alloc (h : Sat B F Γ w) (o : Obj) : Sat B F (Sl.blk w.heap.size o :: Γ) (w.alloc o) := by
  obtain ⟨hb, m, hm, h1, h2, d, l1, l2, hF, hs⟩ := h
  have hnone : ∀ h' : Hp, Hp.le h' m → h' w.heap.size = none := fun h' l => by
    cases e : h' w.heap.size with
    | none => rfl
    | some x =>
      have := (hm _ _ (l _ _ e)).2
      rw [Array.getElem?_eq_none (Nat.le_refl _)] at this; cases this
  have dm : Hp.disj (Hp.one w.heap.size o) m := fun b => by
    by_cases e : b = w.heap.size
    · right; subst e; exact hnone m (Hp.le_refl _)
    · left; simp [Hp.one, e]
  refine ⟨hb.alloc hb.size o, Hp.union (Hp.one w.heap.size o) m, ?_, h1, Hp.union (Hp.one w.heap.size o) h2, ?_, Hp.le_trans l1 (Hp.le_union_right dm), Hp.union_le (Hp.le_union_left _ _) (Hp.le_trans l2 (Hp.le_union_right dm)), hF, Hp.one w.heap.size o, h2, Hp.disj_le dm (Hp.le_refl _) l2, Hp.le_union_left _ _, Hp.le_union_right (Hp.disj_le dm (Hp.le_refl _) l2), by simp [Sl.blk, Hp.one], hs⟩
  · intro b o' e
    unfold Hp.union at e
    by_cases hbn : b = w.heap.size
    · subst hbn
      simp [Hp.one] at e
      subst e
      exact ⟨hb.size, by show (w.heap.push o)[w.heap.size]? = some o; simp⟩
    · simp [Hp.one, hbn] at e
      obtain ⟨h5, h6⟩ := hm b o' e
      exact ⟨h5, by show (w.heap.push o)[b]? = some o'; simp only [Array.getElem?_push, hbn, if_false]; exact h6⟩
  · exact Hp.disj_symm (Hp.disj_union (Hp.disj_le dm (Hp.le_refl _) l1) (Hp.disj_symm d))
/-- A block of the list, written. -/
theorem Sat.write {b : Nat} {o o' : Obj} {w' : World} (h : Sat B F (Sl.blk b o :: Γ) w) (hw : w'.heap = w.heap.setIfInBounds b o') (h2 : w'.os = w.os) (h3 : w'.tape = w.tape) (h4 : w'.output = w.output) :
    Sat B F (Sl.blk b o' :: Γ) w' := by
  obtain ⟨hb, m, hm, h1, h2', d, l1, l2, hF, h3', h4', d', l3, l4, hbk, hs⟩ := h
  have hbb : m b = some o := l2 _ _ (l3 _ _ hbk)
  obtain ⟨hle, hget⟩ := hm b o hbb
  have hlt : b < w.heap.size := by
    rcases Nat.lt_or_ge b w.heap.size with h | h
    · exact h
    · rw [Array.getElem?_eq_none h] at hget; cases hget
  have n1 : h1 b = none := by
    rcases d b with e | e
    · exact e
    · rw [l3 _ _ hbk] at e; cases e
  have n4 : h4' b = none := by
    rcases d' b with e | e
    · rw [show h3' b = some o from hbk] at e; cases e
    · exact e
  have dj : ∀ h' : Hp, h' b = none → Hp.disj (Hp.one b o') h' := fun h' e x => by
    by_cases ex : x = b
    · right; subst ex; exact e
    · left; simp [Hp.one, ex]
  let mm : Hp := fun x => if x = b then some o' else m x
  have lm : ∀ h' : Hp, h' b = none → Hp.le h' m → Hp.le h' mm := fun h' e l x y exy => by
    by_cases ex : x = b
    · subst ex; rw [e] at exy; cases exy
    · simp [mm, ex]; exact l _ _ exy
  have lo : Hp.le (Hp.one b o') mm := fun x y e => by
    by_cases ex : x = b
    · subst ex; simpa [Hp.one, mm] using e
    · simp [Hp.one, ex] at e
  refine ⟨⟨h2.trans hb.os, h3.trans hb.tape, h4.trans hb.output, by rw [hw]; simpa using hb.size, fun k hk => ?_⟩, mm, ?_, h1, Hp.union (Hp.one b o') h4', ?_, lm _ n1 l1, Hp.union_le lo (lm _ n4 (Hp.le_trans l4 l2)), hF, Hp.one b o', h4', dj _ n4, Hp.le_union_left _ _, Hp.le_union_right (dj _ n4), by simp [Sl.blk, Hp.one], hs⟩
  · rw [hw, Array.getElem?_setIfInBounds_ne (by omega)]; exact hb.block k hk
  · intro x y e
    by_cases ex : x = b
    · subst ex
      simp [mm] at e; subst e
      refine ⟨hle, ?_⟩
      rw [hw]; simp [hlt]
    · simp [mm, ex] at e
      obtain ⟨p, q⟩ := hm x y e
      refine ⟨p, ?_⟩
      rw [hw, Array.getElem?_setIfInBounds_ne (Ne.symm ex)]; exact q
  · exact Hp.disj_symm (Hp.disj_union (dj _ n1) (Hp.disj_symm (Hp.disj_le d (Hp.le_refl _) l4)))
/-- The frame, widened by what a call does not take. -/
theorem Sat.frame {As R : List Assn} (h : Sat B F (As ++ R) w) : Sat B (all (F :: R)) As w := by
  obtain ⟨hb, m, hm, hs⟩ := h
  refine ⟨hb, m, hm, ?_⟩
  have h1 : sat (As ++ (F :: R)) (baseHp B) m := sat_perm (List.perm_middle.symm) hs
  have h2 := sat_append_iff.1 h1
  exact sat_perm List.perm_append_comm h2
theorem Sat.unframe {As R : List Assn} (h : Sat B (all (F :: R)) As w) : Sat B F (As ++ R) w := by
  obtain ⟨hb, m, hm, hs⟩ := h
  refine ⟨hb, m, hm, ?_⟩
  have h1 : sat (As ++ [sat (F :: R)]) (baseHp B) m := sat_perm (List.perm_append_comm (l₁ := [sat (F :: R)])) hs
  exact sat_perm (List.perm_middle) (sat_append_iff.2 h1)
/-- Facts and witnesses come out of the list. -/
theorem Sat.ex {α : Type} {A : α → Assn} (h : Sat B F (exA A :: Γ) w) : ∃ x, Sat B F (A x :: Γ) w := by
  obtain ⟨hb, m, hm, h1, h2, d, l1, l2, hF, h3, h4, d', l3, l4, ⟨x, hx⟩, hs⟩ := h
  exact ⟨x, hb, m, hm, h1, h2, d, l1, l2, hF, h3, h4, d', l3, l4, hx, hs⟩
theorem Sat.pure {p : Prop} (h : Sat B F (pur p :: Γ) w) : p := by
  obtain ⟨h1, _, hA⟩ := h.peek .here
  exact hA
theorem Sat.all_open {Δ : List Assn} (h : Sat B F (all Δ :: Γ) w) : Sat B F (Δ ++ Γ) w :=
  h.imp fun _ hs => sat_perm List.perm_append_comm (sat_append_iff.2 (sat_perm (List.perm_append_comm (l₁ := [sat Δ])) hs))
theorem Sat.all_close {Δ : List Assn} (h : Sat B F (Δ ++ Γ) w) : Sat B F (all Δ :: Γ) w :=
  h.imp fun _ hs => sat_perm (List.perm_append_comm (l₂ := [sat Δ])) (sat_append_iff.1 (sat_perm List.perm_append_comm hs))
theorem Sat.put_ex {α : Type} {A : α → Assn} (x : α) (h : Sat B F (A x :: Γ) w) : Sat B F (exA A :: Γ) w := by
  obtain ⟨hb, m, hm, h1, h2, d, l1, l2, hF, h3, h4, d', l3, l4, hx, hs⟩ := h
  exact ⟨hb, m, hm, h1, h2, d, l1, l2, hF, h3, h4, d', l3, l4, ⟨x, hx⟩, hs⟩
theorem Sat.put_pure {p : Prop} (hp : p) (h : Sat B F Γ w) : Sat B F (pur p :: Γ) w :=
  h.imp fun m hs => ⟨Hp.empty, m, fun _ => .inl rfl, fun _ _ e => (by cases e), Hp.le_refl _, hp, hs⟩
/-- Two blocks of the list are two. -/
theorem Sat.ne {b c : Nat} {o o' : Obj} (h : Sat B F (Sl.blk b o :: Sl.blk c o' :: Γ) w) : b ≠ c := by
  rintro rfl
  obtain ⟨hb, m, hm, h1, h2, d, l1, l2, hF, h3, h4, d', l3, l4, hx, h5, h6, d'', l5, l6, hy, hs⟩ := h
  rcases d' b with e | e
  · rw [show h3 b = some o from hx] at e; cases e
  · rw [l5 _ _ hy] at e; cases e
end Go.Proofs.YtaeefjcbmkiiaaaGreatDoor.Sl
