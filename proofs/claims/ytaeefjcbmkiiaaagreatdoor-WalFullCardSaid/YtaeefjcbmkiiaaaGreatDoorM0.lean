/- What a disk is, and what is done with it: plain. -/
import Derived.Test.YtaeefjcbmkiiaaaGreatDoorSlB
namespace Go.Proofs.YtaeefjcbmkiiaaaGreatDoor
open Go Sl
set_option linter.unusedVariables false

/-- A file: its bytes, and how many of them are synced. -/
structure FileS where
  bytes : List UInt8
  synced : Int
  deriving DecidableEq
/-- A disk: its files, in the order in which the map bears them. -/
structure DiskS where
  files : List (List UInt8 × FileS)
  most : Int
  fuse : Int
  dead : Bool
abbrev Nm := List UInt8
abbrev FileS.none : FileS := ⟨[], 0⟩
namespace DiskS
def turn (D : DiskS) : Int × DiskS := (if D.fuse = 0 then 7 else 0, { D with fuse := if D.fuse = 0 then D.fuse else max (D.fuse - 1) (-1), dead := if D.fuse = 0 then true else D.dead })
def find (D : DiskS) (n : Nm) : FileS × Int := if D.dead then (.none, 7) else match assoc D.files n with | some f => (f, 0) | none => (.none, 4)
def total (l : List (Nm × FileS)) : Nat := (l.map fun p => p.2.bytes.length).sum
def does (D : DiskS) (n : Nm) (check : FileS → Int) (what : FileS → List (Nm × FileS) → List (Nm × FileS)) : Int × DiskS :=
  if (D.find n).2 ≠ 0 then ((D.find n).2, D)
  else if check (D.find n).1 ≠ 0 then (check (D.find n).1, D)
  else if D.turn.1 ≠ 0 then D.turn
  else (0, { D.turn.2 with files := what (D.find n).1 D.files })
def sync (D : DiskS) (n : Nm) : Int × DiskS := D.does n (fun _ => 0) fun f l => aput l n ⟨f.bytes, f.bytes.length⟩
def truncate (D : DiskS) (n : Nm) (k : Int) : Int × DiskS := D.does n (fun f => if k < 0 ∨ (f.bytes.length : Int) < k then 2 else 0) fun f l => aput l n ⟨f.bytes.take k.toNat, min f.synced k⟩
def delete (D : DiskS) (n : Nm) : Int × DiskS := D.does n (fun _ => 0) fun _ l => adel l n
end DiskS
/-- A letter or a digit. -/
def cset : List UInt8 := [97, 98, 99, 100, 101, 102, 103, 104, 105, 106, 107, 108, 109, 110, 111, 112, 113, 114, 115, 116, 117, 118, 119, 120, 121, 122, 48, 49, 50, 51, 52, 53, 54, 55, 56, 57]
def alnum (b : UInt8) : Bool := cset.contains b
def okName (s : Nm) : Bool := decide (s ≠ [] ∧ s.length ≤ 24) && s.all alnum
def DiskS.append (D : DiskS) (n : Nm) (data : List UInt8) : Int × DiskS :=
  if (D.find n).2 = 7 then (7, D)
  else if okName n = false then (3, D)
  else if (D.find n).2 = 4 ∧ (D.files.length : Int) = 40 then (11, D)
  else if D.most < (DiskS.total D.files : Int) + data.length then (6, D)
  else if D.turn.1 ≠ 0 then D.turn
  else (0, { D.turn.2 with files := aput D.files n ⟨(D.find n).1.bytes ++ data, (D.find n).1.synced⟩ })
def DiskS.new (most : Int) : DiskS := ⟨[], most, -1, false⟩
/-- What is always so. -/
structure DiskS.Ok (D : DiskS) : Prop where
  fz1 : -1 ≤ D.fuse
  fz2 : D.fuse ≤ 9223372036854775807
  m0 : 0 ≤ D.most
  m1 : D.most ≤ 10000000
  sz : (DiskS.total D.files : Int) ≤ D.most
  sy : ∀ p ∈ D.files, 0 ≤ p.2.synced ∧ p.2.synced ≤ p.2.bytes.length
  nd : (D.files.map (·.1)).Nodup
  ct : D.files.length ≤ 40
  nm : ∀ p ∈ D.files, p.1.length ≤ 24

theorem assoc_mem {κ α : Type} [DecidableEq κ] {l : List (κ × α)} {k : κ} {x : α} (h : assoc l k = some x) : (k, x) ∈ l := by
  induction l with
  | nil => cases h
  | cons p l ih =>
    obtain ⟨k', y⟩ := p
    unfold assoc at h
    split at h
    · rename_i e; cases h; subst e; exact List.mem_cons_self ..
    · exact List.mem_cons_of_mem _ (ih h)
theorem assoc_none {κ α : Type} [DecidableEq κ] {l : List (κ × α)} {k : κ} (h : assoc l k = none) : k ∉ l.map (·.1) := by
  induction l with
  | nil => simp
  | cons p l ih =>
    obtain ⟨k', y⟩ := p
    unfold assoc at h
    split at h
    · cases h
    · rename_i e; simp only [List.map_cons, List.mem_cons, not_or]; exact ⟨e, ih h⟩
theorem total_cons (p : Nm × FileS) (l : List (Nm × FileS)) : DiskS.total (p :: l) = p.2.bytes.length + DiskS.total l := by simp [DiskS.total]
theorem total_append (a b : List (Nm × FileS)) : DiskS.total (a ++ b) = DiskS.total a + DiskS.total b := by simp [DiskS.total]
theorem total_aput (l : List (Nm × FileS)) (n : Nm) (f : FileS) : DiskS.total (aput l n f) + ((assoc l n).map (·.bytes.length)).getD 0 = DiskS.total l + f.bytes.length := by
  induction l with
  | nil => simp [aput, assoc, DiskS.total]
  | cons p l ih =>
    obtain ⟨k, g⟩ := p
    unfold aput assoc
    split
    · simp only [total_cons, Option.map_some, Option.getD_some]; omega
    · simp only [total_cons]; omega
theorem total_adel (l : List (Nm × FileS)) (n : Nm) : DiskS.total (adel l n) ≤ DiskS.total l := by
  induction l with
  | nil => simp [adel]
  | cons p l ih =>
    obtain ⟨k, g⟩ := p
    unfold adel
    split
    · simp only [total_cons]; omega
    · simp only [total_cons]; omega
theorem assoc_total {l : List (Nm × FileS)} {n : Nm} {f : FileS} (h : assoc l n = some f) : f.bytes.length ≤ DiskS.total l := by
  induction l with
  | nil => cases h
  | cons p l ih =>
    obtain ⟨k, g⟩ := p
    unfold assoc at h
    rw [total_cons]
    split at h
    · cases h; exact Nat.le_add_right _ _
    · have := ih h; omega
theorem aput_keys {κ α : Type} [DecidableEq κ] (l : List (κ × α)) (k : κ) (x : α) : (aput l k x).map (·.1) = if k ∈ l.map (·.1) then l.map (·.1) else l.map (·.1) ++ [k] := by
  induction l with
  | nil => simp [aput]
  | cons p l ih =>
    obtain ⟨k', y⟩ := p
    unfold aput
    by_cases h : k = k'
    · simp [h]
    · simp only [h, if_false, List.map_cons, ih, List.mem_cons, false_or]
      split <;> simp
theorem aput_mem {κ α : Type} [DecidableEq κ] {l : List (κ × α)} {k : κ} {x : α} {p : κ × α} (h : p ∈ aput l k x) : p = (k, x) ∨ p ∈ l := by
  induction l with
  | nil => left; simpa [aput] using h
  | cons q l ih =>
    obtain ⟨k', y⟩ := q
    unfold aput at h
    split at h
    · rcases List.mem_cons.1 h with h | h
      · exact .inl h
      · exact .inr (List.mem_cons_of_mem _ h)
    · rcases List.mem_cons.1 h with h | h
      · right; rw [h]; exact List.mem_cons_self ..
      · rcases ih h with h | h
        · exact .inl h
        · exact .inr (List.mem_cons_of_mem _ h)
theorem adel_sub {κ α : Type} [DecidableEq κ] (l : List (κ × α)) (k : κ) : (adel l k).Sublist l := by
  induction l with
  | nil => simp [adel]
  | cons q l ih =>
    obtain ⟨k', y⟩ := q
    unfold adel
    split
    · exact List.sublist_cons_self ..
    · exact ih.cons_cons _
theorem aput_nodup {κ α : Type} [DecidableEq κ] {l : List (κ × α)} {k : κ} {x : α} (h : (l.map (·.1)).Nodup) : ((aput l k x).map (·.1)).Nodup := by
  rw [aput_keys]
  split
  · exact h
  · rename_i hn
    rw [List.nodup_append]
    exact ⟨h, by simp, fun a ha b hb => by rw [List.mem_singleton.1 hb]; rintro rfl; exact hn ha⟩
theorem aput_length {κ α : Type} [DecidableEq κ] (l : List (κ × α)) (k : κ) (x : α) : (aput l k x).length = if assoc l k = none then l.length + 1 else l.length := by
  have h := congrArg List.length (aput_keys l k x)
  simp only [List.length_map] at h
  rw [h]
  cases ha : assoc l k with
  | none => rw [if_neg (assoc_none ha)]; simp
  | some y => rw [if_pos (List.mem_map.2 ⟨_, assoc_mem ha, rfl⟩)]; simp
namespace DiskS.Ok
variable {D : DiskS}
theorem turn (h : D.Ok) : D.turn.2.Ok := by
  have h1 := h.fz1
  have h2 := h.fz2
  exact { h with fz1 := by show -1 ≤ ite _ _ _; split <;> omega, fz2 := by show ite _ _ _ ≤ _; split <;> omega }
theorem find (h : D.Ok) (n : Nm) : (D.find n).1.bytes.length ≤ DiskS.total D.files ∧ 0 ≤ (D.find n).1.synced ∧ (D.find n).1.synced ≤ (D.find n).1.bytes.length := by
  unfold DiskS.find
  split
  · exact ⟨Nat.zero_le _, Int.le_refl _, Int.le_refl _⟩
  · cases ha : assoc D.files n with
    | none => exact ⟨Nat.zero_le _, Int.le_refl _, Int.le_refl _⟩
    | some f => exact ⟨assoc_total ha, h.sy _ (assoc_mem ha)⟩
theorem does (h : D.Ok) {n : Nm} {check : FileS → Int} {what : FileS → List (Nm × FileS) → List (Nm × FileS)}
    (hw : (D.find n).2 = 0 → check (D.find n).1 = 0 → DiskS.total (what (D.find n).1 D.files) ≤ DiskS.total D.files ∧ (∀ p ∈ what (D.find n).1 D.files, 0 ≤ p.2.synced ∧ p.2.synced ≤ p.2.bytes.length) ∧ ((what (D.find n).1 D.files).map (·.1)).Nodup ∧ (what (D.find n).1 D.files).length ≤ 40 ∧ ∀ p ∈ what (D.find n).1 D.files, p.1.length ≤ 24) : (D.does n check what).2.Ok := by
  unfold DiskS.does
  split
  · exact h
  split
  · exact h
  split
  · exact h.turn
  · rename_i h1 h2 h3
    obtain ⟨a, b, c, d, e⟩ := hw (by simpa using h1) (by simpa using h2)
    have ht := h.turn
    refine { ht with sz := ?_, sy := b, nd := c, ct := d, nm := e }
    show (DiskS.total (what _ D.files) : Int) ≤ D.most
    have := h.sz; omega
theorem find_some {n : Nm} (h : (D.find n).2 = 0) : assoc D.files n = some (D.find n).1 := by
  unfold DiskS.find at h ⊢
  split at h
  · cases h
  · rename_i hd
    rw [if_neg hd]
    cases ha : assoc D.files n with
    | none => rw [ha] at h; cases h
    | some f => rfl
theorem put (h : D.Ok) {n : Nm} (hf : (D.find n).2 = 0) (f : FileS) (h1 : f.bytes.length ≤ (D.find n).1.bytes.length) (h2 : 0 ≤ f.synced ∧ f.synced ≤ f.bytes.length) :
    DiskS.total (aput D.files n f) ≤ DiskS.total D.files ∧ (∀ p ∈ aput D.files n f, 0 ≤ p.2.synced ∧ p.2.synced ≤ p.2.bytes.length) ∧ ((aput D.files n f).map (·.1)).Nodup ∧ (aput D.files n f).length ≤ 40 ∧ ∀ p ∈ aput D.files n f, p.1.length ≤ 24 := by
  have ha := find_some hf
  have ht := total_aput D.files n f
  rw [ha] at ht
  simp only [Option.map_some, Option.getD_some] at ht
  refine ⟨by omega, fun p hp => ?_, aput_nodup h.nd, ?_, fun p hp => ?_⟩
  · rcases aput_mem hp with rfl | hp
    · exact h2
    · exact h.sy p hp
  · rw [aput_length, ha]; simpa using h.ct
  · rcases aput_mem hp with rfl | hp
    · exact h.nm (n, (D.find n).1) (assoc_mem ha)
    · exact h.nm p hp
theorem sync (h : D.Ok) (n : Nm) : (D.sync n).2.Ok := h.does fun h1 _ => h.put h1 _ (Nat.le_refl _) ⟨by simp, Int.le_refl _⟩
theorem truncate (h : D.Ok) (n : Nm) (k : Int) : (D.truncate n k).2.Ok := h.does fun h1 h2 => by
  have hk : 0 ≤ k ∧ k ≤ (D.find n).1.bytes.length := by
    split at h2
    · cases h2
    · omega
  have := h.find n
  refine h.put h1 _ (by simp; omega) ⟨by simp; omega, ?_⟩
  simp only [List.length_take]
  omega
theorem delete (h : D.Ok) (n : Nm) : (D.delete n).2.Ok := h.does fun _ _ =>
  ⟨total_adel _ _, fun p hp => h.sy p ((adel_sub _ _).mem hp), h.nd.sublist ((adel_sub _ _).map _), Nat.le_trans (adel_sub _ _).length_le h.ct, fun p hp => h.nm p ((adel_sub _ _).mem hp)⟩
theorem append (h : D.Ok) (n : Nm) (data : List UInt8) : (D.append n data).2.Ok := by
  unfold DiskS.append
  split
  · exact h
  split
  · exact h
  split
  · exact h
  split
  · exact h
  split
  · exact h.turn
  · rename_i h1 h2 h3 h4 h5
    have ht := h.turn
    have hsum := total_aput D.files n ⟨(D.find n).1.bytes ++ data, (D.find n).1.synced⟩
    have hd : ¬ D.dead = true := fun hd => h1 (by simp [DiskS.find, hd])
    have hfb : (D.find n).1.bytes.length = ((assoc D.files n).map (·.bytes.length)).getD 0 := by
      unfold DiskS.find
      rw [if_neg hd]
      cases assoc D.files n <;> rfl
    simp only [List.length_append] at hsum
    have hf := h.find n
    refine { ht with sz := ?_, sy := ?_, nd := ?_, ct := ?_, nm := ?_ }
    · show (DiskS.total (aput D.files _ _) : Int) ≤ D.most
      omega
    · intro p hp
      rcases aput_mem hp with rfl | hp
      · exact ⟨hf.2.1, by simp only [List.length_append]; omega⟩
      · exact h.sy p hp
    · exact aput_nodup h.nd
    · show (aput D.files _ _).length ≤ 40
      rw [aput_length]
      have := h.ct
      split
      · rename_i h6
        rcases Nat.lt_or_ge D.files.length 40 with h7 | h7
        · omega
        · exact absurd ⟨by simp [DiskS.find, hd, h6], by omega⟩ h3
      · exact h.ct
    · intro p hp
      rcases aput_mem hp with rfl | hp
      · have : okName n = true := by simpa using h2
        simp only [okName, Bool.and_eq_true, decide_eq_true_eq] at this
        exact this.1.2
      · exact h.nm p hp
theorem new {most : Int} (h0 : 0 ≤ most) (h1 : most ≤ 10000000) : (DiskS.new most).Ok where
  fz1 := by show (-1 : Int) ≤ -1; omega
  fz2 := by show (-1 : Int) ≤ _; omega
  m0 := h0
  m1 := h1
  sz := by show ((0 : Nat) : Int) ≤ most; omega
  sy := fun p hp => by cases hp
  nd := by show ([] : List Nm).Nodup; exact List.nodup_nil
  ct := by show 0 ≤ 40; omega
  nm := fun p hp => by cases hp
end DiskS.Ok
end Go.Proofs.YtaeefjcbmkiiaaaGreatDoor
