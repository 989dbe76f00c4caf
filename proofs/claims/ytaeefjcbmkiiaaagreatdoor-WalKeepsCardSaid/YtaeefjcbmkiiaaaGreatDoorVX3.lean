/- strings.Builder: its methods, walked. -/
import Derived.Test.YtaeefjcbmkiiaaaGreatDoorVX2
import Derived.Shelf.Strings.SlTrimAscii
import Derived.Shelf.Small.Wraps
import Derived.Shelf.Strconv.Atoi
import Derived.Shelf.Strconv.Itoa3
import Derived.Shelf.Sort.Plain
import Derived.Shelf.Slices.Turned
import Derived.Shelf.Slices.In.SortNone
import Derived.Shelf.SlIter.Nil
import Derived.Shelf.SortM.Plain
import Derived.Shelf.SortM.SortNone
import Derived.Ground.GgzProg
import Derived.Ground.SlgmProg
import Derived.Test.YtaeefjcbmkiiaaaGreatDoorProg
import Derived.Lib.ItoaNum
set_option linter.unusedVariables false
set_option linter.unusedSimpArgs false
namespace Go.Proofs.YtaeefjcbmkiiaaaGreatDoor
open Go Sl
attribute [local irreducible] J JR JS RO CR Arr Sat Tr sat blk
set_option linter.unusedVariables false
set_option maxHeartbeats 400000
set_option maxRecDepth 4000

/-- A builder's own block. -/
abbrev bcell (E : TypeId) (p v : Value) : Obj := .cells ⟨[p, v]⟩ E (0, 0)
/-- A type that a builder lies at the head of. -/
class BdT (E : TypeId) : Prop where
  h : liesAt Tryz.prog Tryz.prog.depth E (2 / Tryz.prog.cellsOf E) 0 143 1 = true
instance : TEnc 5 byteE := ⟨trivial⟩
instance : BdT 143 := ⟨by kernel_rfl⟩
instance : BdT 155 := ⟨by kernel_rfl⟩
theorem noEscape (v : Value) (w : World) : (callFunc 178 ⟨[v]⟩).run Tryz.prog w = .ok (.value v) w := by
  rw [run_callFunc_extern Tryz.func178 (by kernel_rfl) (by kernel_rfl) (by kernel_rfl) (e := Extern.AbiNoEscape.same) (by kernel_rfl)]
  rfl

theorem check0_tr (E : TypeId) [hE : BdT E] (b : Nat) (v : Value) :
    Tr Tryz.prog 139 [.pointer (some ⟨b, 0, none⟩)] [blk b (bcell E (.pointer none) v)] fun r Γ => r = .tuple #[] ∧ Γ = [blk b (bcell E (.pointer (some ⟨b, 0, none⟩)) v)] := by
  refine Tr_of_J Tryz.func139 follows rfl Tryz.ntmps139 (by simp) fun B F => ?_
  repeat' (first | refine upc rfl ?_ | refine cx (noEscape _) ?_ | (refine dpc (n := 2) rfl ?hh ?_; case hh => exact hE.h) | refine mv ?_ | refine jn ?_ | refine nl ?_ | refine ld rfl ?_ | refine nc ?_ | refine f0 ?_ | refine sq ?_ | refine rg ?_ | refine pen ?_ | refine pnn ?_ | refine kp ?_ | refine ct ?_ | refine cf ?_ | (refine cd (fun hc => ?_) (fun hc => ?_) <;> try (exfalso; omega)) | (refine cn (fun hc => ?_) (fun hc => ?_) <;> try (exfalso; omega)) | refine bl ?_ | refine ib ?_ | refine xt ?_ | refine sr rfl ?_ | refine la rfl ?_ | refine fe ?_ | refine lde rfl ?_ | refine lae rfl ?_ | refine fa ?_ | refine cv ?_ | refine pes ?_ | refine pns ?_ | refine cb (fun hc => ?_) (fun hc => ?_))
  refine rte ?_
  exact ⟨_, ⟨rfl, rfl⟩, _, by repeat constructor⟩
theorem check1_tr (E : TypeId) (b : Nat) (v : Value) :
    Tr Tryz.prog 139 [.pointer (some ⟨b, 0, none⟩)] [blk b (bcell E (.pointer (some ⟨b, 0, none⟩)) v)] fun r Γ => r = .tuple #[] ∧ Γ = [blk b (bcell E (.pointer (some ⟨b, 0, none⟩)) v)] := by
  refine Tr_of_J Tryz.func139 follows rfl Tryz.ntmps139 (by simp) fun B F => ?_
  repeat' (first | refine mv ?_ | refine jn ?_ | refine nl ?_ | refine ld rfl ?_ | refine nc ?_ | refine f0 ?_ | refine sq ?_ | refine rg ?_ | refine pen ?_ | refine pnn ?_ | refine kp ?_ | refine ct ?_ | refine cf ?_ | (refine cd (fun hc => ?_) (fun hc => ?_) <;> try (exfalso; omega)) | (refine cn (fun hc => ?_) (fun hc => ?_) <;> try (exfalso; omega)) | refine bl ?_ | refine ib ?_ | refine xt ?_ | refine sr rfl ?_ | refine la rfl ?_ | refine fe ?_ | refine lde rfl ?_ | refine lae rfl ?_ | refine fa ?_ | refine cv ?_ | refine pes ?_ | refine pns ?_ | refine cb (fun hc => ?_) (fun hc => ?_))
  refine rte ?_
  exact ⟨_, ⟨rfl, rfl⟩, _, by repeat constructor⟩
/-- What a builder says of itself: nothing yet, or its own place. -/
def BP (b : Nat) (p : Value) : Prop := p = .pointer none ∨ p = .pointer (some ⟨b, 0, none⟩)
theorem check_tr (E : TypeId) [hE : BdT E] (b : Nat) (p v : Value) (hp : BP b p) :
    Tr Tryz.prog 139 [.pointer (some ⟨b, 0, none⟩)] [blk b (bcell E p v)] fun r Γ => r = .tuple #[] ∧ Γ = [blk b (bcell E (.pointer (some ⟨b, 0, none⟩)) v)] := by
  rcases hp with rfl | rfl
  · exact check0_tr E b v
  · exact check1_tr E b v
theorem wstr_tr (E : TypeId) [hE : BdT E] (b : Nat) (p v : Value) (hp : BP b p) (L s : List UInt8) (hl : L.length + s.length ≤ 140737488355328) :
    Tr Tryz.prog 86 [.pointer (some ⟨b, 0, none⟩), vs s] [blk b (bcell E p v), sl 5 byteE v L]
      fun r Γ => ∃ v', Γ = [blk b (bcell E (.pointer (some ⟨b, 0, none⟩)) v'), sl 5 byteE v' (L ++ s)] := by
  refine Tr_of_J Tryz.func86 follows rfl Tryz.ntmps86 (by simp) fun B F => ?_
  repeat' (first | (refine cl (check_tr E b p v hp) ?_; rintro v0 Γ' ⟨rfl, rfl⟩; refine n1 ?_) | refine aps rfl rfl (fun v' => ?_) | refine sro rfl rfl ?_ | refine mv ?_ | refine asn ?_ | refine jn ?_ | refine nl ?_ | refine ld rfl ?_ | refine nc ?_ | refine f0 ?_ | refine sq ?_ | refine rg ?_ | refine lnb ?_ | refine lls rfl ?_ | refine kp ?_ | refine ct ?_ | refine cf ?_ | (refine cd (fun hc => ?_) (fun hc => ?_) <;> try (exfalso; omega)) | (refine cn (fun hc => ?_) (fun hc => ?_) <;> try (exfalso; omega)) | refine bl ?_ | refine ib ?_ | refine xt ?_ | refine sr rfl ?_ | refine la rfl ?_ | refine fe ?_ | refine lde rfl ?_ | refine lae rfl ?_ | refine fa ?_ | refine af_ ?_ | refine cb (fun hc => ?_) (fun hc => ?_))
  refine rt ?_
  exact ⟨_, ⟨_, rfl⟩, _, by repeat constructor⟩
theorem wbyte_tr (E : TypeId) [hE : BdT E] (b : Nat) (p v : Value) (hp : BP b p) (L : List UInt8) (x : UInt8) (hl : L.length + 1 ≤ 140737488355328) :
    Tr Tryz.prog 179 [.pointer (some ⟨b, 0, none⟩), .int .u8 x.toNat] [blk b (bcell E p v), sl 5 byteE v L]
      fun r Γ => ∃ v', Γ = [blk b (bcell E (.pointer (some ⟨b, 0, none⟩)) v'), sl 5 byteE v' (L ++ [x])] := by
  refine Tr_of_J Tryz.func179 follows rfl Tryz.ntmps179 (by simp) fun B F => ?_
  repeat' (first | (refine cl (check_tr E b p v hp) ?_; rintro v0 Γ' ⟨rfl, rfl⟩; refine n1 ?_) | refine bsl (e := byteE) (X := [x]) (fun v2 => ?_) (.cona rfl rfl .nil) | refine apo rfl rfl (fun v' => ?_) (by simp; omega) (by simp; omega) | refine sro rfl rfl ?_ | refine mv ?_ | refine asn ?_ | refine jn ?_ | refine nl ?_ | refine ld rfl ?_ | refine nc ?_ | refine f0 ?_ | refine sq ?_ | refine rg ?_ | refine kp ?_ | refine ct ?_ | refine cf ?_ | (refine cd (fun hc => ?_) (fun hc => ?_) <;> try (exfalso; omega)) | (refine cn (fun hc => ?_) (fun hc => ?_) <;> try (exfalso; omega)) | refine bl ?_ | refine ib ?_ | refine xt ?_ | refine sr rfl ?_ | refine la rfl ?_ | refine fe ?_ | refine lde rfl ?_ | refine lae rfl ?_ | refine fa ?_ | refine af_ ?_ | refine cb (fun hc => ?_) (fun hc => ?_))
  refine rt ?_
  exact ⟨_, ⟨_, rfl⟩, _, by repeat constructor⟩
/-- The text of a builder that holds something; behind it the builder's length alone is known. -/
theorem str0_tr (E : TypeId) (b g cap : Nat) (p : Value) (L : List UInt8) (cur : Array Value) (hL : L ≠ []) (h1 : L.length ≤ cap) (h2 : cap ≤ maxLen) (h3 : cur.size = cap) (h4 : cur.toList.take L.length = flat byteE L) :
    Tr Tryz.prog 88 [.pointer (some ⟨b, 0, none⟩)] [blk b (bcell E p (.slice (some ⟨g, 0, none⟩) L.length cap)), blk g (.cells cur 5 (0, 0))]
      fun r Γ => r = vs L ∧ Γ = [blk b (bcell E p (.slice (some ⟨g, 0, none⟩) L.length cap))] := by
  have hc0 : cap ≠ 0 := by have : L.length ≠ 0 := fun e => hL (List.length_eq_zero_iff.1 e); omega
  have h63 : L.length ≤ 9223372036854775807 := by unfold maxLen at h2; omega
  refine Tr_of_J Tryz.func88 follows rfl Tryz.ntmps88 (by simp) fun B F => ?_
  repeat' (first | refine ll ?_ | refine usd ?_ rfl hc0 | refine uss (by kernel_rfl) (fun fz => ?_) hL (by omega) h63 h4 | refine JS_cons rfl rfl (RO_len_slice rfl) ?_ | refine mv ?_ | refine asn ?_ | refine jn ?_ | refine nl ?_ | refine ld rfl ?_ | refine nc ?_ | refine f0 ?_ | refine sq ?_ | refine rg ?_ | refine lnb ?_ | refine lls rfl ?_ | refine kp ?_ | refine ct ?_ | refine cf ?_ | (refine cd (fun hc => ?_) (fun hc => ?_) <;> try (exfalso; omega)) | (refine cn (fun hc => ?_) (fun hc => ?_) <;> try (exfalso; omega)) | refine bl ?_ | refine ib ?_ | refine xt ?_ | refine la rfl ?_ | refine fe ?_ | refine lde rfl ?_ | refine lae rfl ?_ | refine fa ?_ | refine af_ ?_ | refine cb (fun hc => ?_) (fun hc => ?_) | refine J_draw (id := 1) [(0, true, []), (1, true, []), (2, true, []), (3, true, []), (5, true, []), (6, true, []), (7, true, []), (8, true, []), (9, true, []), (4, false, [5, 6, 7, 8, 9]), (10, false, []), (11, true, [])] (by kernel_rfl) ?_ | refine JS_cons rfl rfl (RO_move rfl) ?_ | refine JS_cons rfl rfl (RO_nilCheck rfl) ?_ | refine JS_cons rfl rfl (RO_fieldAddr0 rfl) ?_ | refine JS_cons rfl rfl (RO_load rfl (by rfl)) ?_ | refine JS_off rfl ?_ | refine JS_cons rfl rfl (RO_fieldAddr rfl) ?_ | refine JS_cons rfl rfl (RO_lnb rfl) ?_ | refine JS_cons rfl rfl (RO_lls rfl) ?_ | refine JS_cons rfl rfl (RO_fe rfl) ?_ | refine JS_cons rfl rfl (RO_lde rfl (by omega) rfl) ?_ | refine JS_offu rfl ?_ | refine JS_cons rfl rfl (RO_lae rfl (by omega) (by repeat constructor)) ?_ | refine JS_cons rfl rfl (RO_loadAgg rfl (by repeat constructor)) ?_)
  refine rt ?_
  exact ⟨_, ⟨rfl, rfl⟩, _, by repeat constructor⟩
theorem str_tr (E : TypeId) (b : Nat) (p v : Value) (L : List UInt8) (hL : L ≠ []) :
    Tr Tryz.prog 88 [.pointer (some ⟨b, 0, none⟩)] [blk b (bcell E p v), sl 5 byteE v L]
      fun r Γ => r = vs L ∧ Γ = [blk b (bcell E p v)] := by
  refine Tr.intro fun B F w hS => ?_
  have hS2 := hS.perm (.swap _ _ _)
  have hi : 0 < L.length := List.length_pos_iff.2 hL
  obtain ⟨cap, cur, e1, e2, hS3, e3, e4, e5, e6⟩ := sl_open hS2 hi
  have e5' : cur.size = cap := by rw [e5]; exact Nat.mul_one _
  have e6' : cur.toList.take L.length = flat byteE L := by rw [← e6]; congr 1; exact (Nat.mul_one _).symm
  have := (str0_tr E b (vb v) cap p L cur hL e3 e4 e5' e6').app B F w (by rw [← e1]; exact hS3.perm (.swap _ _ _))
  rw [← e1] at this
  exact this
theorem len_tr (E : TypeId) (b : Nat) (p : Value) (q : Option Addr) (n m : Nat) :
    Tr Tryz.prog 89 [.pointer (some ⟨b, 0, none⟩)] [blk b (bcell E p (.slice q n m))] fun r Γ => r = .int .i64 n ∧ Γ = [blk b (bcell E p (.slice q n m))] := by
  refine Tr_of_J Tryz.func89 follows rfl Tryz.ntmps89 (by simp) fun B F => ?_
  repeat' (first | refine ll ?_ | refine mv ?_ | refine asn ?_ | refine jn ?_ | refine nl ?_ | refine ld rfl ?_ | refine nc ?_ | refine f0 ?_ | refine sq ?_ | refine rg ?_ | refine lnb ?_ | refine lls rfl ?_ | refine kp ?_ | refine ct ?_ | refine cf ?_ | (refine cd (fun hc => ?_) (fun hc => ?_) <;> try (exfalso; omega)) | (refine cn (fun hc => ?_) (fun hc => ?_) <;> try (exfalso; omega)) | refine bl ?_ | refine ib ?_ | refine xt ?_ | refine la rfl ?_ | refine fe ?_ | refine lde rfl ?_ | refine lae rfl ?_ | refine fa ?_ | refine af_ ?_ | refine cb (fun hc => ?_) (fun hc => ?_))
  refine rt ?_
  exact ⟨_, ⟨rfl, rfl⟩, _, by repeat constructor⟩
end Go.Proofs.YtaeefjcbmkiiaaaGreatDoor
/- What a disk is, and what is done with it: plain. -/
namespace Go.Proofs.YtaeefjcbmkiiaaaGreatDoor
open Go Sl
set_option linter.unusedVariables false

/-- A file: its bytes, and how many of them are synced. -/
structure FileS where
  bytes : List UInt8
  synced : Int
  deriving DecidableEq
/-- A disk: its files, in the order in which the map bears them. -/
structure DiskS where
  files : List (List UInt8 × FileS)
  most : Int
  fuse : Int
  dead : Bool
abbrev Nm := List UInt8
abbrev FileS.none : FileS := ⟨[], 0⟩
namespace DiskS
def turn (D : DiskS) : Int × DiskS := (if D.fuse = 0 then 7 else 0, { D with fuse := if D.fuse = 0 then D.fuse else max (D.fuse - 1) (-1), dead := if D.fuse = 0 then true else D.dead })
def find (D : DiskS) (n : Nm) : FileS × Int := if D.dead then (.none, 7) else match assoc D.files n with | some f => (f, 0) | none => (.none, 4)
def total (l : List (Nm × FileS)) : Nat := (l.map fun p => p.2.bytes.length).sum
def does (D : DiskS) (n : Nm) (check : FileS → Int) (what : FileS → List (Nm × FileS) → List (Nm × FileS)) : Int × DiskS :=
  if (D.find n).2 ≠ 0 then ((D.find n).2, D)
  else if check (D.find n).1 ≠ 0 then (check (D.find n).1, D)
  else if D.turn.1 ≠ 0 then D.turn
  else (0, { D.turn.2 with files := what (D.find n).1 D.files })
def sync (D : DiskS) (n : Nm) : Int × DiskS := D.does n (fun _ => 0) fun f l => aput l n ⟨f.bytes, f.bytes.length⟩
def truncate (D : DiskS) (n : Nm) (k : Int) : Int × DiskS := D.does n (fun f => if k < 0 ∨ (f.bytes.length : Int) < k then 2 else 0) fun f l => aput l n ⟨f.bytes.take k.toNat, min f.synced k⟩
def delete (D : DiskS) (n : Nm) : Int × DiskS := D.does n (fun _ => 0) fun _ l => adel l n
end DiskS
/-- A letter or a digit. -/
def cset : List UInt8 := [97, 98, 99, 100, 101, 102, 103, 104, 105, 106, 107, 108, 109, 110, 111, 112, 113, 114, 115, 116, 117, 118, 119, 120, 121, 122, 48, 49, 50, 51, 52, 53, 54, 55, 56, 57]
def alnum (b : UInt8) : Bool := cset.contains b
def okName (s : Nm) : Bool := decide (s ≠ [] ∧ s.length ≤ 24) && s.all alnum
def DiskS.append (D : DiskS) (n : Nm) (data : List UInt8) : Int × DiskS :=
  if (D.find n).2 = 7 then (7, D)
  else if okName n = false then (3, D)
  else if (D.find n).2 = 4 ∧ (D.files.length : Int) = 40 then (11, D)
  else if D.most < (DiskS.total D.files : Int) + data.length then (6, D)
  else if D.turn.1 ≠ 0 then D.turn
  else (0, { D.turn.2 with files := aput D.files n ⟨(D.find n).1.bytes ++ data, (D.find n).1.synced⟩ })
def DiskS.new (most : Int) : DiskS := ⟨[], most, -1, false⟩
/-- What is always so. -/
structure DiskS.Ok (D : DiskS) : Prop where
  fz1 : -1 ≤ D.fuse
  fz2 : D.fuse ≤ 9223372036854775807
  m0 : 0 ≤ D.most
  m1 : D.most ≤ 10000000
  sz : (DiskS.total D.files : Int) ≤ D.most
  sy : ∀ p ∈ D.files, 0 ≤ p.2.synced ∧ p.2.synced ≤ p.2.bytes.length
  nd : (D.files.map (·.1)).Nodup
  ct : D.files.length ≤ 40
  nm : ∀ p ∈ D.files, p.1.length ≤ 24

theorem assoc_mem {κ α : Type} [DecidableEq κ] {l : List (κ × α)} {k : κ} {x : α} (h : assoc l k = some x) : (k, x) ∈ l := by
  induction l with
  | nil => cases h
  | cons p l ih =>
    obtain ⟨k', y⟩ := p
    unfold assoc at h
    split at h
    · rename_i e; cases h; subst e; exact List.mem_cons_self ..
    · exact List.mem_cons_of_mem _ (ih h)
theorem assoc_none {κ α : Type} [DecidableEq κ] {l : List (κ × α)} {k : κ} (h : assoc l k = none) : k ∉ l.map (·.1) := by
  induction l with
  | nil => simp
  | cons p l ih =>
    obtain ⟨k', y⟩ := p
    unfold assoc at h
    split at h
    · cases h
    · rename_i e; simp only [List.map_cons, List.mem_cons, not_or]; exact ⟨e, ih h⟩
theorem total_cons (p : Nm × FileS) (l : List (Nm × FileS)) : DiskS.total (p :: l) = p.2.bytes.length + DiskS.total l := by simp [DiskS.total]
theorem total_append (a b : List (Nm × FileS)) : DiskS.total (a ++ b) = DiskS.total a + DiskS.total b := by simp [DiskS.total]
theorem total_aput (l : List (Nm × FileS)) (n : Nm) (f : FileS) : DiskS.total (aput l n f) + ((assoc l n).map (·.bytes.length)).getD 0 = DiskS.total l + f.bytes.length := by
  induction l with
  | nil => simp [aput, assoc, DiskS.total]
  | cons p l ih =>
    obtain ⟨k, g⟩ := p
    unfold aput assoc
    split
    · simp only [total_cons, Option.map_some, Option.getD_some]; omega
    · simp only [total_cons]; omega
theorem total_adel (l : List (Nm × FileS)) (n : Nm) : DiskS.total (adel l n) ≤ DiskS.total l := by
  induction l with
  | nil => simp [adel]
  | cons p l ih =>
    obtain ⟨k, g⟩ := p
    unfold adel
    split
    · simp only [total_cons]; omega
    · simp only [total_cons]; omega
theorem assoc_total {l : List (Nm × FileS)} {n : Nm} {f : FileS} (h : assoc l n = some f) : f.bytes.length ≤ DiskS.total l := by
  induction l with
  | nil => cases h
  | cons p l ih =>
    obtain ⟨k, g⟩ := p
    unfold assoc at h
    rw [total_cons]
    split at h
    · cases h; exact Nat.le_add_right _ _
    · have := ih h; omega
theorem aput_keys {κ α : Type} [DecidableEq κ] (l : List (κ × α)) (k : κ) (x : α) : (aput l k x).map (·.1) = if k ∈ l.map (·.1) then l.map (·.1) else l.map (·.1) ++ [k] := by
  induction l with
  | nil => simp [aput]
  | cons p l ih =>
    obtain ⟨k', y⟩ := p
    unfold aput
    by_cases h : k = k'
    · simp [h]
    · simp only [h, if_false, List.map_cons, ih, List.mem_cons, false_or]
      split <;> simp
theorem aput_mem {κ α : Type} [DecidableEq κ] {l : List (κ × α)} {k : κ} {x : α} {p : κ × α} (h : p ∈ aput l k x) : p = (k, x) ∨ p ∈ l := by
  induction l with
  | nil => left; simpa [aput] using h
  | cons q l ih =>
    obtain ⟨k', y⟩ := q
    unfold aput at h
    split at h
    · rcases List.mem_cons.1 h with h | h
      · exact .inl h
      · exact .inr (List.mem_cons_of_mem _ h)
    · rcases List.mem_cons.1 h with h | h
      · right; rw [h]; exact List.mem_cons_self ..
      · rcases ih h with h | h
        · exact .inl h
        · exact .inr (List.mem_cons_of_mem _ h)
theorem adel_sub {κ α : Type} [DecidableEq κ] (l : List (κ × α)) (k : κ) : (adel l k).Sublist l := by
  induction l with
  | nil => simp [adel]
  | cons q l ih =>
    obtain ⟨k', y⟩ := q
    unfold adel
    split
    · exact List.sublist_cons_self ..
    · exact ih.cons_cons _
theorem aput_nodup {κ α : Type} [DecidableEq κ] {l : List (κ × α)} {k : κ} {x : α} (h : (l.map (·.1)).Nodup) : ((aput l k x).map (·.1)).Nodup := by
  rw [aput_keys]
  split
  · exact h
  · rename_i hn
    rw [List.nodup_append]
    exact ⟨h, by simp, fun a ha b hb => by rw [List.mem_singleton.1 hb]; rintro rfl; exact hn ha⟩
theorem aput_length {κ α : Type} [DecidableEq κ] (l : List (κ × α)) (k : κ) (x : α) : (aput l k x).length = if assoc l k = none then l.length + 1 else l.length := by
  have h := congrArg List.length (aput_keys l k x)
  simp only [List.length_map] at h
  rw [h]
  cases ha : assoc l k with
  | none => rw [if_neg (assoc_none ha)]; simp
  | some y => rw [if_pos (List.mem_map.2 ⟨_, assoc_mem ha, rfl⟩)]; simp
namespace DiskS.Ok
variable {D : DiskS}
theorem turn (h : D.Ok) : D.turn.2.Ok := by
  have h1 := h.fz1
  have h2 := h.fz2
  exact { h with fz1 := by show -1 ≤ ite _ _ _; split <;> omega, fz2 := by show ite _ _ _ ≤ _; split <;> omega }
theorem find (h : D.Ok) (n : Nm) : (D.find n).1.bytes.length ≤ DiskS.total D.files ∧ 0 ≤ (D.find n).1.synced ∧ (D.find n).1.synced ≤ (D.find n).1.bytes.length := by
  unfold DiskS.find
  split
  · exact ⟨Nat.zero_le _, Int.le_refl _, Int.le_refl _⟩
  · cases ha : assoc D.files n with
    | none => exact ⟨Nat.zero_le _, Int.le_refl _, Int.le_refl _⟩
    | some f => exact ⟨assoc_total ha, h.sy _ (assoc_mem ha)⟩
theorem does (h : D.Ok) {n : Nm} {check : FileS → Int} {what : FileS → List (Nm × FileS) → List (Nm × FileS)}
    (hw : (D.find n).2 = 0 → check (D.find n).1 = 0 → DiskS.total (what (D.find n).1 D.files) ≤ DiskS.total D.files ∧ (∀ p ∈ what (D.find n).1 D.files, 0 ≤ p.2.synced ∧ p.2.synced ≤ p.2.bytes.length) ∧ ((what (D.find n).1 D.files).map (·.1)).Nodup ∧ (what (D.find n).1 D.files).length ≤ 40 ∧ ∀ p ∈ what (D.find n).1 D.files, p.1.length ≤ 24) : (D.does n check what).2.Ok := by
  unfold DiskS.does
  split
  · exact h
  split
  · exact h
  split
  · exact h.turn
  · rename_i h1 h2 h3
    obtain ⟨a, b, c, d, e⟩ := hw (by simpa using h1) (by simpa using h2)
    have ht := h.turn
    refine { ht with sz := ?_, sy := b, nd := c, ct := d, nm := e }
    show (DiskS.total (what _ D.files) : Int) ≤ D.most
    have := h.sz; omega
theorem find_some {n : Nm} (h : (D.find n).2 = 0) : assoc D.files n = some (D.find n).1 := by
  unfold DiskS.find at h ⊢
  split at h
  · cases h
  · rename_i hd
    rw [if_neg hd]
    cases ha : assoc D.files n with
    | none => rw [ha] at h; cases h
    | some f => rfl
theorem put (h : D.Ok) {n : Nm} (hf : (D.find n).2 = 0) (f : FileS) (h1 : f.bytes.length ≤ (D.find n).1.bytes.length) (h2 : 0 ≤ f.synced ∧ f.synced ≤ f.bytes.length) :
    DiskS.total (aput D.files n f) ≤ DiskS.total D.files ∧ (∀ p ∈ aput D.files n f, 0 ≤ p.2.synced ∧ p.2.synced ≤ p.2.bytes.length) ∧ ((aput D.files n f).map (·.1)).Nodup ∧ (aput D.files n f).length ≤ 40 ∧ ∀ p ∈ aput D.files n f, p.1.length ≤ 24 := by
  have ha := find_some hf
  have ht := total_aput D.files n f
  rw [ha] at ht
  simp only [Option.map_some, Option.getD_some] at ht
  refine ⟨by omega, fun p hp => ?_, aput_nodup h.nd, ?_, fun p hp => ?_⟩
  · rcases aput_mem hp with rfl | hp
    · exact h2
    · exact h.sy p hp
  · rw [aput_length, ha]; simpa using h.ct
  · rcases aput_mem hp with rfl | hp
    · exact h.nm (n, (D.find n).1) (assoc_mem ha)
    · exact h.nm p hp
theorem sync (h : D.Ok) (n : Nm) : (D.sync n).2.Ok := h.does fun h1 _ => h.put h1 _ (Nat.le_refl _) ⟨by simp, Int.le_refl _⟩
theorem truncate (h : D.Ok) (n : Nm) (k : Int) : (D.truncate n k).2.Ok := h.does fun h1 h2 => by
  have hk : 0 ≤ k ∧ k ≤ (D.find n).1.bytes.length := by
    split at h2
    · cases h2
    · omega
  have := h.find n
  refine h.put h1 _ (by simp; omega) ⟨by simp; omega, ?_⟩
  simp only [List.length_take]
  omega
theorem delete (h : D.Ok) (n : Nm) : (D.delete n).2.Ok := h.does fun _ _ =>
  ⟨total_adel _ _, fun p hp => h.sy p ((adel_sub _ _).mem hp), h.nd.sublist ((adel_sub _ _).map _), Nat.le_trans (adel_sub _ _).length_le h.ct, fun p hp => h.nm p ((adel_sub _ _).mem hp)⟩
theorem append (h : D.Ok) (n : Nm) (data : List UInt8) : (D.append n data).2.Ok := by
  unfold DiskS.append
  split
  · exact h
  split
  · exact h
  split
  · exact h
  split
  · exact h
  split
  · exact h.turn
  · rename_i h1 h2 h3 h4 h5
    have ht := h.turn
    have hsum := total_aput D.files n ⟨(D.find n).1.bytes ++ data, (D.find n).1.synced⟩
    have hd : ¬ D.dead = true := fun hd => h1 (by simp [DiskS.find, hd])
    have hfb : (D.find n).1.bytes.length = ((assoc D.files n).map (·.bytes.length)).getD 0 := by
      unfold DiskS.find
      rw [if_neg hd]
      cases assoc D.files n <;> rfl
    simp only [List.length_append] at hsum
    have hf := h.find n
    refine { ht with sz := ?_, sy := ?_, nd := ?_, ct := ?_, nm := ?_ }
    · show (DiskS.total (aput D.files _ _) : Int) ≤ D.most
      omega
    · intro p hp
      rcases aput_mem hp with rfl | hp
      · exact ⟨hf.2.1, by simp only [List.length_append]; omega⟩
      · exact h.sy p hp
    · exact aput_nodup h.nd
    · show (aput D.files _ _).length ≤ 40
      rw [aput_length]
      have := h.ct
      split
      · rename_i h6
        rcases Nat.lt_or_ge D.files.length 40 with h7 | h7
        · omega
        · exact absurd ⟨by simp [DiskS.find, hd, h6], by omega⟩ h3
      · exact h.ct
    · intro p hp
      rcases aput_mem hp with rfl | hp
      · have : okName n = true := by simpa using h2
        simp only [okName, Bool.and_eq_true, decide_eq_true_eq] at this
        exact this.1.2
      · exact h.nm p hp
theorem new {most : Int} (h0 : 0 ≤ most) (h1 : most ≤ 10000000) : (DiskS.new most).Ok where
  fz1 := by show (-1 : Int) ≤ -1; omega
  fz2 := by show (-1 : Int) ≤ _; omega
  m0 := h0
  m1 := h1
  sz := by show ((0 : Nat) : Int) ≤ most; omega
  sy := fun p hp => by cases hp
  nd := by show ([] : List Nm).Nodup; exact List.nodup_nil
  ct := by show 0 ≤ 40; omega
  nm := fun p hp => by cases hp
end DiskS.Ok
end Go.Proofs.YtaeefjcbmkiiaaaGreatDoor
/- Bytes: numbers, texts, sums, frames: plain. -/
namespace Go.Proofs.YtaeefjcbmkiiaaaGreatDoor
open Go Sl
set_option linter.unusedVariables false

/-- The groups of a natural ahead of its last one, the highest first. -/
def natHi (w : Nat) : List UInt8 := if h : w = 0 then [] else natHi (w / 128) ++ [UInt8.ofNat (w % 128 + 128)]
  termination_by w
  decreasing_by omega
def encNat (v : Nat) : List UInt8 := natHi (v / 128) ++ [UInt8.ofNat (v % 128)]
def zig (n : Int) : Nat := if 0 ≤ n then 2 * n.toNat else 2 * (-n - 1).toNat + 1
def encInt (n : Int) : List UInt8 := encNat (zig n)
def encInts (l : List Int) : List UInt8 := l.flatMap encInt
def encText (s : List UInt8) : List UInt8 := encInt s.length ++ s
def encTexts (l : List (List UInt8)) : List UInt8 := l.flatMap encText
/-- How many groups. -/
def glen (w : Nat) : Nat := if h : w = 0 then 0 else glen (w / 128) + 1
  termination_by w
  decreasing_by omega
theorem glen_zero : glen 0 = 0 := by unfold glen; simp
theorem glen_pos {w : Nat} (h : w ≠ 0) : glen w = glen (w / 128) + 1 := by rw [glen, dif_neg h]
theorem natHi_zero : natHi 0 = [] := by unfold natHi; simp
theorem natHi_pos {w : Nat} (h : w ≠ 0) : natHi w = natHi (w / 128) ++ [UInt8.ofNat (w % 128 + 128)] := by rw [natHi, dif_neg h]
theorem natHi_length (w : Nat) : (natHi w).length = glen w := by
  induction w using Nat.strongRecOn with
  | _ w ih =>
    by_cases h : w = 0
    · subst h; rw [natHi_zero, glen_zero]; rfl
    · rw [natHi_pos h, glen_pos h, List.length_append, ih _ (by omega)]; rfl
theorem glen_bound (w : Nat) : ∀ k, w < 128 ^ k → glen w ≤ k := by
  induction w using Nat.strongRecOn with
  | _ w ih =>
    intro k hk
    by_cases h : w = 0
    · subst h; rw [glen_zero]; exact Nat.zero_le _
    · cases k with
      | zero => simp at hk; exact absurd hk h
      | succ k =>
        rw [glen_pos h]
        have : w / 128 < 128 ^ k := by rw [Nat.div_lt_iff_lt_mul (by decide)]; rw [Nat.pow_succ] at hk; exact hk
        exact Nat.succ_le_succ (ih _ (by omega) k this)
theorem glen_top (w : Nat) : w / 128 ^ glen w = 0 := by
  induction w using Nat.strongRecOn with
  | _ w ih =>
    by_cases h : w = 0
    · subst h; simp
    · rw [glen_pos h, Nat.pow_succ, Nat.mul_comm, ← Nat.div_div_eq_div_mul]
      exact ih _ (by omega)
theorem glen_below (w : Nat) : ∀ j, j < glen w → w / 128 ^ j ≠ 0 := by
  induction w using Nat.strongRecOn with
  | _ w ih =>
    intro j hj
    by_cases h : w = 0
    · subst h; rw [glen_zero] at hj; omega
    · cases j with
      | zero => simpa using h
      | succ j =>
        rw [glen_pos h] at hj
        rw [Nat.pow_succ, Nat.mul_comm, ← Nat.div_div_eq_div_mul]
        exact ih _ (by omega) j (by omega)
theorem encNat_length (v : Nat) (h : v < 18446744073709551616) : 1 ≤ (encNat v).length ∧ (encNat v).length ≤ 10 := by
  have : glen (v / 128) ≤ 9 := glen_bound _ 9 (by have : v / 128 < 144115188075855872 := by omega
                                                  omega)
  simp only [encNat, List.length_append, natHi_length, List.length_cons, List.length_nil]
  omega
theorem zig_lt {n : Int} (h1 : -9223372036854775808 ≤ n) (h2 : n ≤ 9223372036854775807) : zig n < 18446744073709551616 := by
  unfold zig; split <;> omega
theorem encInt_length {n : Int} (h1 : -9223372036854775808 ≤ n) (h2 : n ≤ 9223372036854775807) : 1 ≤ (encInt n).length ∧ (encInt n).length ≤ 10 := encNat_length _ (zig_lt h1 h2)

/-! ### sums -/
def crcBit (c : Nat) : Nat := if c % 2 = 1 then (c / 2) ^^^ 2197175160 else c / 2
def crcByte (c : Nat) (b : UInt8) : Nat := crcBit (crcBit (crcBit (crcBit (crcBit (crcBit (crcBit (crcBit (c ^^^ b.toNat))))))))
def crcSum (c : Nat) (s : List UInt8) : Nat := s.foldl crcByte c
def crc (s : List UInt8) : Nat := 4294967295 - crcSum 4294967295 s
def four (v : Nat) : List UInt8 := [UInt8.ofNat (v / 16777216 % 256), UInt8.ofNat (v / 65536 % 256), UInt8.ofNat (v / 256 % 256), UInt8.ofNat (v % 256)]
def frame (s : List UInt8) : List UInt8 := four s.length ++ four (crc (four s.length ++ s)) ++ s
theorem frame_length (s : List UInt8) : (frame s).length = 8 + s.length := by simp [frame, four]; omega
theorem crcSum_append (c : Nat) (a b : List UInt8) : crcSum c (a ++ b) = crcSum (crcSum c a) b := by simp [crcSum]
theorem xor_lt32 {a b : Nat} (h1 : a < 4294967296) (h2 : b < 4294967296) : a ^^^ b < 4294967296 := Nat.xor_lt_two_pow (n := 32) h1 h2
theorem crcBit_lt {c : Nat} (h : c < 4294967296) : crcBit c < 4294967296 := by
  unfold crcBit
  split
  · exact xor_lt32 (by omega) (by decide)
  · omega
theorem crcByte_lt {c : Nat} (h : c < 4294967296) (b : UInt8) : crcByte c b < 4294967296 := by
  have hb : b.toNat < 4294967296 := by have := b.toNat_lt; omega
  unfold crcByte
  iterate 8 apply crcBit_lt
  exact xor_lt32 h hb
theorem crcSum_lt {c : Nat} (h : c < 4294967296) (s : List UInt8) : crcSum c s < 4294967296 := by
  induction s generalizing c with
  | nil => exact h
  | cons b s ih => exact ih (crcByte_lt h b)
end Go.Proofs.YtaeefjcbmkiiaaaGreatDoor
/- The shelf's contracts laid at this dump, in plain words (by the kit's lay-shelf and lay-plain; the layings that are used). -/
namespace Go.Proofs
open Go.Shelf
def Tryz.lays160_ren : Go.Shelf.Ren := ⟨fun | 160 => 80 | 232 => 118 | 231 => 117 | 227 => 119 | 234 => 121 | 233 => 120 | 236 => 123 | 235 => 122 | 228 => 163 | 271 => 166 | 151 => 165 | 197 => 164 | 120 => 195 | 152 => 194 | 260 => 193 | 137 => 208 | 119 => 209 | 224 => 210 | 225 => 211 | 217 => 217 | 266 => 218 | n => n, fun | 9 => 9 | 4 => 4 | 3 => 3 | 5 => 5 | 117 => 171 | 116 => 170 | 0 => 0 | 124 => 174 | 21 => 21 | 105 => 209 | 46 => 138 | 119 => 252 | 139 => 255 | 138 => 254 | n => n, fun | 3 => 3 | 4 => 4 | n => n⟩
theorem Tryz.lays160 : Go.Proofs.Lays.n160 Tryz.prog Tryz.lays160_ren := {
  mixed := by kernel_rfl
  f119 := Tryz.func209.trans (congrArg some (by kernel_rfl))
  f120 := Tryz.func195.trans (congrArg some (by kernel_rfl))
  f137 := Tryz.func208.trans (congrArg some (by kernel_rfl))
  f151 := Tryz.func165.trans (congrArg some (by kernel_rfl))
  f152 := Tryz.func194.trans (congrArg some (by kernel_rfl))
  f160 := Tryz.func80.trans (congrArg some (by kernel_rfl))
  f197 := Tryz.func164.trans (congrArg some (by kernel_rfl))
  f217 := Tryz.func217.trans (congrArg some (by kernel_rfl))
  f224 := Tryz.func210.trans (congrArg some (by kernel_rfl))
  f225 := Tryz.func211.trans (congrArg some (by kernel_rfl))
  f227 := Tryz.func119.trans (congrArg some (by kernel_rfl))
  f228 := Tryz.func163.trans (congrArg some (by kernel_rfl))
  f231 := Tryz.func117.trans (congrArg some (by kernel_rfl))
  f232 := Tryz.func118.trans (congrArg some (by kernel_rfl))
  f233 := Tryz.func120.trans (congrArg some (by kernel_rfl))
  f234 := Tryz.func121.trans (congrArg some (by kernel_rfl))
  f235 := Tryz.func122.trans (congrArg some (by kernel_rfl))
  f236 := Tryz.func123.trans (congrArg some (by kernel_rfl))
  f260 := Tryz.func193.trans (congrArg some (by kernel_rfl))
  f266 := Tryz.func218.trans (congrArg some (by kernel_rfl))
  f271 := Tryz.func166.trans (congrArg some (by kernel_rfl))
  t0 := Tryz.underlying0
  a0 := Tryz.isAgg0
  z0 := Tryz.sizeOf0
  v0 := Tryz.zeroValue0
  t3 := Tryz.underlying3
  a3 := Tryz.isAgg3
  z3 := Tryz.sizeOf3
  v3 := Tryz.zeroValue3
  t4 := Tryz.underlying4
  a4 := Tryz.isAgg4
  z4 := Tryz.sizeOf4
  v4 := Tryz.zeroValue4
  t5 := Tryz.underlying5
  a5 := Tryz.isAgg5
  z5 := Tryz.sizeOf5
  v5 := Tryz.zeroValue5
  t9 := Tryz.underlying9
  a9 := Tryz.isAgg9
  z9 := Tryz.sizeOf9
  v9 := Tryz.zeroValue9
  t21 := Tryz.underlying21
  a21 := Tryz.isAgg21
  z21 := Tryz.sizeOf21
  v21 := Tryz.zeroValue21
  t46 := Tryz.underlying138
  a46 := Tryz.isAgg138
  z46 := Tryz.sizeOf138
  v46 := Tryz.zeroValue138
  t105 := Tryz.underlying209
  a105 := Tryz.isAgg209
  z105 := Tryz.sizeOf209
  v105 := Tryz.zeroValue209
  t116 := Tryz.underlying170
  a116 := Tryz.isAgg170
  z116 := Tryz.sizeOf170
  t117 := Tryz.underlying171
  a117 := Tryz.isAgg171
  z117 := Tryz.sizeOf171
  v117 := Tryz.zeroValue171
  t119 := Tryz.underlying252
  a119 := Tryz.isAgg252
  z119 := Tryz.sizeOf252
  t124 := Tryz.underlying174
  a124 := Tryz.isAgg174
  z124 := Tryz.sizeOf174
  v124 := Tryz.zeroValue174
  t138 := Tryz.underlying254
  a138 := Tryz.isAgg254
  z138 := Tryz.sizeOf254
  v138 := Tryz.zeroValue254
  t139 := Tryz.underlying255
  a139 := Tryz.isAgg255
  z139 := Tryz.sizeOf255
  v139 := Tryz.zeroValue255
  g3 := by kernel_rfl
  g4 := by kernel_rfl }
def Tryz.lays103_ren : Go.Shelf.Ren := ⟨fun | 103 => 79 | 210 => 116 | 206 => 162 | n => n, fun | 9 => 9 | 4 => 4 | 24 => 129 | 3 => 3 | n => n, fun | n => n⟩
theorem Tryz.lays103 : Go.Proofs.Lays.n103 Tryz.prog Tryz.lays103_ren := {
  mixed := by kernel_rfl
  f103 := Tryz.func79.trans (congrArg some (by kernel_rfl))
  f206 := Tryz.func162.trans (congrArg some (by kernel_rfl))
  f210 := Tryz.func116.trans (congrArg some (by kernel_rfl))
  t3 := Tryz.underlying3
  a3 := Tryz.isAgg3
  z3 := Tryz.sizeOf3
  v3 := Tryz.zeroValue3
  t4 := Tryz.underlying4
  a4 := Tryz.isAgg4
  z4 := Tryz.sizeOf4
  v4 := Tryz.zeroValue4
  t9 := Tryz.underlying9
  a9 := Tryz.isAgg9
  z9 := Tryz.sizeOf9
  v9 := Tryz.zeroValue9
  t24 := Tryz.underlying129
  a24 := Tryz.isAgg129
  z24 := Tryz.sizeOf129
  v24 := Tryz.zeroValue129 }
def Tryz.lays172_ren : Go.Shelf.Ren := ⟨fun | 172 => 81 | 244 => 124 | 245 => 125 | 247 => 167 | 279 => 168 | 280 => 169 | 281 => 170 | 282 => 171 | 287 => 196 | 316 => 197 | 171 => 75 | 205 => 198 | 321 => 212 | 322 => 213 | 243 => 112 | 246 => 159 | 283 => 180 | 284 => 181 | 285 => 182 | 286 => 183 | 129 => 136 | 317 => 200 | 318 => 201 | 319 => 202 | 320 => 203 | 337 => 214 | 338 => 215 | n => n, fun | 9 => 9 | 3 => 3 | 75 => 133 | 76 => 134 | 4 => 4 | 5 => 5 | 167 => 212 | 37 => 102 | 0 => 0 | 85 => 213 | 2 => 2 | 168 => 215 | 53 => 187 | 175 => 238 | 46 => 138 | 210 => 241 | 127 => 189 | 145 => 262 | 143 => 260 | 21 => 21 | 171 => 228 | 173 => 230 | 212 => 248 | 51 => 163 | 20 => 20 | 213 => 249 | 232 => 264 | 233 => 265 | 80 => 95 | n => n, fun | 15 => 0 | 16 => 1 | 17 => 2 | 18 => 6 | 19 => 7 | n => n⟩
theorem Tryz.lays172 : Go.Proofs.Lays.n172 Tryz.prog Tryz.lays172_ren := {
  mixed := by kernel_rfl
  f129 := Tryz.func136.trans (congrArg some (by kernel_rfl))
  f171 := Tryz.func75.trans (congrArg some (by kernel_rfl))
  f172 := Tryz.func81.trans (congrArg some (by kernel_rfl))
  f205 := Tryz.func198.trans (congrArg some (by kernel_rfl))
  f243 := Tryz.func112.trans (congrArg some (by kernel_rfl))
  f244 := Tryz.func124.trans (congrArg some (by kernel_rfl))
  f245 := Tryz.func125.trans (congrArg some (by kernel_rfl))
  f246 := Tryz.func159.trans (congrArg some (by kernel_rfl))
  f247 := Tryz.func167.trans (congrArg some (by kernel_rfl))
  f279 := Tryz.func168.trans (congrArg some (by kernel_rfl))
  f280 := Tryz.func169.trans (congrArg some (by kernel_rfl))
  f281 := Tryz.func170.trans (congrArg some (by kernel_rfl))
  f282 := Tryz.func171.trans (congrArg some (by kernel_rfl))
  f283 := Tryz.func180.trans (congrArg some (by kernel_rfl))
  f284 := Tryz.func181.trans (congrArg some (by kernel_rfl))
  f285 := Tryz.func182.trans (congrArg some (by kernel_rfl))
  f286 := Tryz.func183.trans (congrArg some (by kernel_rfl))
  f287 := Tryz.func196.trans (congrArg some (by kernel_rfl))
  f316 := Tryz.func197.trans (congrArg some (by kernel_rfl))
  f317 := Tryz.func200.trans (congrArg some (by kernel_rfl))
  f318 := Tryz.func201.trans (congrArg some (by kernel_rfl))
  f319 := Tryz.func202.trans (congrArg some (by kernel_rfl))
  f320 := Tryz.func203.trans (congrArg some (by kernel_rfl))
  f321 := Tryz.func212.trans (congrArg some (by kernel_rfl))
  f322 := Tryz.func213.trans (congrArg some (by kernel_rfl))
  f337 := Tryz.func214.trans (congrArg some (by kernel_rfl))
  f338 := Tryz.func215.trans (congrArg some (by kernel_rfl))
  t0 := Tryz.underlying0
  a0 := Tryz.isAgg0
  z0 := Tryz.sizeOf0
  v0 := Tryz.zeroValue0
  t2 := Tryz.underlying2
  a2 := Tryz.isAgg2
  z2 := Tryz.sizeOf2
  v2 := Tryz.zeroValue2
  t3 := Tryz.underlying3
  a3 := Tryz.isAgg3
  z3 := Tryz.sizeOf3
  v3 := Tryz.zeroValue3
  t4 := Tryz.underlying4
  a4 := Tryz.isAgg4
  z4 := Tryz.sizeOf4
  v4 := Tryz.zeroValue4
  t5 := Tryz.underlying5
  a5 := Tryz.isAgg5
  z5 := Tryz.sizeOf5
  v5 := Tryz.zeroValue5
  t9 := Tryz.underlying9
  a9 := Tryz.isAgg9
  z9 := Tryz.sizeOf9
  v9 := Tryz.zeroValue9
  t20 := Tryz.underlying20
  a20 := Tryz.isAgg20
  z20 := Tryz.sizeOf20
  v20 := Tryz.zeroValue20
  t21 := Tryz.underlying21
  a21 := Tryz.isAgg21
  z21 := Tryz.sizeOf21
  v21 := Tryz.zeroValue21
  t37 := Tryz.underlying102
  a37 := Tryz.isAgg102
  z37 := Tryz.sizeOf102
  v37 := Tryz.zeroValue102
  t46 := Tryz.underlying138
  a46 := Tryz.isAgg138
  z46 := Tryz.sizeOf138
  v46 := Tryz.zeroValue138
  t51 := Tryz.underlying163
  a51 := Tryz.isAgg163
  z51 := Tryz.sizeOf163
  v51 := Tryz.zeroValue163
  t53 := Tryz.underlying187
  a53 := Tryz.isAgg187
  z53 := Tryz.sizeOf187
  v53 := Tryz.zeroValue187
  t75 := Tryz.underlying133
  a75 := Tryz.isAgg133
  z75 := Tryz.sizeOf133
  v75 := Tryz.zeroValue133
  t76 := Tryz.underlying134
  a76 := Tryz.isAgg134
  z76 := Tryz.sizeOf134
  v76 := Tryz.zeroValue134
  t85 := Tryz.underlying213
  a85 := Tryz.isAgg213
  z85 := Tryz.sizeOf213
  v85 := Tryz.zeroValue213
  t127 := Tryz.underlying189
  a127 := Tryz.isAgg189
  z127 := Tryz.sizeOf189
  v127 := Tryz.zeroValue189
  t143 := Tryz.underlying260
  a143 := Tryz.isAgg260
  z143 := Tryz.sizeOf260
  v143 := Tryz.zeroValue260
  t145 := Tryz.underlying262
  a145 := Tryz.isAgg262
  z145 := Tryz.sizeOf262
  v145 := Tryz.zeroValue262
  t167 := Tryz.underlying212
  a167 := Tryz.isAgg212
  z167 := Tryz.sizeOf212
  v167 := Tryz.zeroValue212
  t168 := Tryz.underlying215
  a168 := Tryz.isAgg215
  z168 := Tryz.sizeOf215
  v168 := Tryz.zeroValue215
  t171 := Tryz.underlying228
  a171 := Tryz.isAgg228
  z171 := Tryz.sizeOf228
  v171 := Tryz.zeroValue228
  t173 := Tryz.underlying230
  a173 := Tryz.isAgg230
  z173 := Tryz.sizeOf230
  v173 := Tryz.zeroValue230
  t175 := Tryz.underlying238
  a175 := Tryz.isAgg238
  z175 := Tryz.sizeOf238
  v175 := Tryz.zeroValue238
  t210 := Tryz.underlying241
  a210 := Tryz.isAgg241
  z210 := Tryz.sizeOf241
  v210 := Tryz.zeroValue241
  t212 := Tryz.underlying248
  a212 := Tryz.isAgg248
  z212 := Tryz.sizeOf248
  v212 := Tryz.zeroValue248
  t213 := Tryz.underlying249
  a213 := Tryz.isAgg249
  z213 := Tryz.sizeOf249
  t232 := Tryz.underlying264
  a232 := Tryz.isAgg264
  z232 := Tryz.sizeOf264
  v232 := Tryz.zeroValue264
  t233 := Tryz.underlying265
  a233 := Tryz.isAgg265
  z233 := Tryz.sizeOf265
  v233 := Tryz.zeroValue265
  g15 := by kernel_rfl
  g16 := by kernel_rfl
  g17 := by kernel_rfl
  g18 := by kernel_rfl
  g19 := by kernel_rfl }
def Tryz.lays171_ren : Go.Shelf.Ren := ⟨fun | 171 => 75 | 243 => 112 | 246 => 159 | 283 => 180 | 284 => 181 | 285 => 182 | 286 => 183 | 129 => 136 | 317 => 200 | 318 => 201 | 319 => 202 | 320 => 203 | 337 => 214 | 338 => 215 | n => n, fun | 3 => 3 | 9 => 9 | 2 => 2 | 4 => 4 | 171 => 228 | 0 => 0 | 53 => 187 | 37 => 102 | 5 => 5 | 173 => 230 | 212 => 248 | 51 => 163 | 20 => 20 | 213 => 249 | 46 => 138 | 232 => 264 | 233 => 265 | n => n, fun | 17 => 2 | 18 => 6 | 19 => 7 | n => n⟩
theorem Tryz.lays171 : Go.Proofs.Lays.n171 Tryz.prog Tryz.lays171_ren := {
  mixed := by kernel_rfl
  f129 := Tryz.func136.trans (congrArg some (by kernel_rfl))
  f171 := Tryz.func75.trans (congrArg some (by kernel_rfl))
  f243 := Tryz.func112.trans (congrArg some (by kernel_rfl))
  f246 := Tryz.func159.trans (congrArg some (by kernel_rfl))
  f283 := Tryz.func180.trans (congrArg some (by kernel_rfl))
  f284 := Tryz.func181.trans (congrArg some (by kernel_rfl))
  f285 := Tryz.func182.trans (congrArg some (by kernel_rfl))
  f286 := Tryz.func183.trans (congrArg some (by kernel_rfl))
  f317 := Tryz.func200.trans (congrArg some (by kernel_rfl))
  f318 := Tryz.func201.trans (congrArg some (by kernel_rfl))
  f319 := Tryz.func202.trans (congrArg some (by kernel_rfl))
  f320 := Tryz.func203.trans (congrArg some (by kernel_rfl))
  f337 := Tryz.func214.trans (congrArg some (by kernel_rfl))
  f338 := Tryz.func215.trans (congrArg some (by kernel_rfl))
  t0 := Tryz.underlying0
  a0 := Tryz.isAgg0
  z0 := Tryz.sizeOf0
  v0 := Tryz.zeroValue0
  t2 := Tryz.underlying2
  a2 := Tryz.isAgg2
  z2 := Tryz.sizeOf2
  v2 := Tryz.zeroValue2
  t3 := Tryz.underlying3
  a3 := Tryz.isAgg3
  z3 := Tryz.sizeOf3
  v3 := Tryz.zeroValue3
  t4 := Tryz.underlying4
  a4 := Tryz.isAgg4
  z4 := Tryz.sizeOf4
  v4 := Tryz.zeroValue4
  t5 := Tryz.underlying5
  a5 := Tryz.isAgg5
  z5 := Tryz.sizeOf5
  v5 := Tryz.zeroValue5
  t9 := Tryz.underlying9
  a9 := Tryz.isAgg9
  z9 := Tryz.sizeOf9
  v9 := Tryz.zeroValue9
  t20 := Tryz.underlying20
  a20 := Tryz.isAgg20
  z20 := Tryz.sizeOf20
  v20 := Tryz.zeroValue20
  t37 := Tryz.underlying102
  a37 := Tryz.isAgg102
  z37 := Tryz.sizeOf102
  v37 := Tryz.zeroValue102
  t46 := Tryz.underlying138
  a46 := Tryz.isAgg138
  z46 := Tryz.sizeOf138
  v46 := Tryz.zeroValue138
  t51 := Tryz.underlying163
  a51 := Tryz.isAgg163
  z51 := Tryz.sizeOf163
  v51 := Tryz.zeroValue163
  t53 := Tryz.underlying187
  a53 := Tryz.isAgg187
  z53 := Tryz.sizeOf187
  v53 := Tryz.zeroValue187
  t171 := Tryz.underlying228
  a171 := Tryz.isAgg228
  z171 := Tryz.sizeOf228
  v171 := Tryz.zeroValue228
  t173 := Tryz.underlying230
  a173 := Tryz.isAgg230
  z173 := Tryz.sizeOf230
  v173 := Tryz.zeroValue230
  t212 := Tryz.underlying248
  a212 := Tryz.isAgg248
  z212 := Tryz.sizeOf248
  v212 := Tryz.zeroValue248
  t213 := Tryz.underlying249
  a213 := Tryz.isAgg249
  z213 := Tryz.sizeOf249
  t232 := Tryz.underlying264
  a232 := Tryz.isAgg264
  z232 := Tryz.sizeOf264
  v232 := Tryz.zeroValue264
  t233 := Tryz.underlying265
  a233 := Tryz.isAgg265
  z233 := Tryz.sizeOf265
  v233 := Tryz.zeroValue265
  g17 := by kernel_rfl
  g18 := by kernel_rfl
  g19 := by kernel_rfl }
def Tryz.lays189_ren : Go.Shelf.Ren := ⟨fun | 189 => 49 | 125 => 83 | 257 => 82 | 128 => 135 | 129 => 136 | 294 => 126 | 295 => 127 | 296 => 128 | 297 => 129 | 298 => 130 | 299 => 131 | 216 => 132 | 300 => 133 | 301 => 134 | 328 => 172 | 329 => 173 | 330 => 174 | 331 => 175 | 332 => 176 | 215 => 177 | 343 => 199 | n => n, fun | 28 => 32 | 3 => 3 | 46 => 138 | 0 => 0 | 51 => 163 | 53 => 187 | 4 => 4 | 183 => 178 | 182 => 177 | 131 => 183 | 5 => 5 | 9 => 9 | 218 => 218 | 222 => 222 | 228 => 243 | 229 => 244 | n => n, fun | n => n⟩
theorem Tryz.lays189 : Go.Proofs.Lays.n189 Tryz.prog Tryz.lays189_ren := {
  mixed := by kernel_rfl
  f125 := Tryz.func83.trans (congrArg some (by kernel_rfl))
  f128 := Tryz.func135.trans (congrArg some (by kernel_rfl))
  f129 := Tryz.func136.trans (congrArg some (by kernel_rfl))
  f189 := Tryz.func49.trans (congrArg some (by kernel_rfl))
  f215 := Tryz.func177.trans (congrArg some (by kernel_rfl))
  f216 := Tryz.func132.trans (congrArg some (by kernel_rfl))
  f257 := Tryz.func82.trans (congrArg some (by kernel_rfl))
  f294 := Tryz.func126.trans (congrArg some (by kernel_rfl))
  f295 := Tryz.func127.trans (congrArg some (by kernel_rfl))
  f296 := Tryz.func128.trans (congrArg some (by kernel_rfl))
  f297 := Tryz.func129.trans (congrArg some (by kernel_rfl))
  f298 := Tryz.func130.trans (congrArg some (by kernel_rfl))
  f299 := Tryz.func131.trans (congrArg some (by kernel_rfl))
  f300 := Tryz.func133.trans (congrArg some (by kernel_rfl))
  f301 := Tryz.func134.trans (congrArg some (by kernel_rfl))
  f328 := Tryz.func172.trans (congrArg some (by kernel_rfl))
  f329 := Tryz.func173.trans (congrArg some (by kernel_rfl))
  f330 := Tryz.func174.trans (congrArg some (by kernel_rfl))
  f331 := Tryz.func175.trans (congrArg some (by kernel_rfl))
  f332 := Tryz.func176.trans (congrArg some (by kernel_rfl))
  f343 := Tryz.func199.trans (congrArg some (by kernel_rfl))
  t0 := Tryz.underlying0
  a0 := Tryz.isAgg0
  z0 := Tryz.sizeOf0
  v0 := Tryz.zeroValue0
  t3 := Tryz.underlying3
  a3 := Tryz.isAgg3
  z3 := Tryz.sizeOf3
  v3 := Tryz.zeroValue3
  t4 := Tryz.underlying4
  a4 := Tryz.isAgg4
  z4 := Tryz.sizeOf4
  v4 := Tryz.zeroValue4
  t5 := Tryz.underlying5
  a5 := Tryz.isAgg5
  z5 := Tryz.sizeOf5
  v5 := Tryz.zeroValue5
  t9 := Tryz.underlying9
  a9 := Tryz.isAgg9
  z9 := Tryz.sizeOf9
  v9 := Tryz.zeroValue9
  t28 := Tryz.underlying32
  a28 := Tryz.isAgg32
  z28 := Tryz.sizeOf32
  v28 := Tryz.zeroValue32
  t46 := Tryz.underlying138
  a46 := Tryz.isAgg138
  z46 := Tryz.sizeOf138
  v46 := Tryz.zeroValue138
  t51 := Tryz.underlying163
  a51 := Tryz.isAgg163
  z51 := Tryz.sizeOf163
  v51 := Tryz.zeroValue163
  t53 := Tryz.underlying187
  a53 := Tryz.isAgg187
  z53 := Tryz.sizeOf187
  v53 := Tryz.zeroValue187
  t131 := Tryz.underlying183
  a131 := Tryz.isAgg183
  z131 := Tryz.sizeOf183
  v131 := Tryz.zeroValue183
  t182 := Tryz.underlying177
  a182 := Tryz.isAgg177
  z182 := Tryz.sizeOf177
  v182 := Tryz.zeroValue177
  t183 := Tryz.underlying178
  a183 := Tryz.isAgg178
  z183 := Tryz.sizeOf178
  v183 := Tryz.zeroValue178
  t218 := Tryz.underlying218
  a218 := Tryz.isAgg218
  z218 := Tryz.sizeOf218
  v218 := Tryz.zeroValue218
  t222 := Tryz.underlying222
  a222 := Tryz.isAgg222
  z222 := Tryz.sizeOf222
  v222 := Tryz.zeroValue222
  t228 := Tryz.underlying243
  a228 := Tryz.isAgg243
  z228 := Tryz.sizeOf243
  v228 := Tryz.zeroValue243
  t229 := Tryz.underlying244
  a229 := Tryz.isAgg244
  z229 := Tryz.sizeOf244
  v229 := Tryz.zeroValue244 }
def Tryz.lays190_ren : Go.Shelf.Ren := ⟨fun | 190 => 114 | 125 => 83 | 258 => 161 | 128 => 135 | 129 => 136 | 302 => 184 | 303 => 185 | 304 => 186 | 305 => 187 | 306 => 188 | 307 => 189 | 308 => 190 | 309 => 191 | 310 => 192 | 333 => 204 | 329 => 173 | 330 => 174 | 334 => 205 | 335 => 206 | 336 => 207 | 344 => 216 | n => n, fun | 31 => 47 | 9 => 9 | 3 => 3 | 46 => 138 | 0 => 0 | 51 => 163 | 53 => 187 | 4 => 4 | 183 => 178 | 182 => 177 | 131 => 183 | 5 => 5 | 218 => 218 | 222 => 222 | 228 => 243 | 229 => 244 | n => n, fun | n => n⟩
theorem Tryz.lays190 : Go.Proofs.Lays.n190 Tryz.prog Tryz.lays190_ren := {
  mixed := by kernel_rfl
  f125 := Tryz.func83.trans (congrArg some (by kernel_rfl))
  f128 := Tryz.func135.trans (congrArg some (by kernel_rfl))
  f129 := Tryz.func136.trans (congrArg some (by kernel_rfl))
  f190 := Tryz.func114.trans (congrArg some (by kernel_rfl))
  f258 := Tryz.func161.trans (congrArg some (by kernel_rfl))
  f302 := Tryz.func184.trans (congrArg some (by kernel_rfl))
  f303 := Tryz.func185.trans (congrArg some (by kernel_rfl))
  f304 := Tryz.func186.trans (congrArg some (by kernel_rfl))
  f305 := Tryz.func187.trans (congrArg some (by kernel_rfl))
  f306 := Tryz.func188.trans (congrArg some (by kernel_rfl))
  f307 := Tryz.func189.trans (congrArg some (by kernel_rfl))
  f308 := Tryz.func190.trans (congrArg some (by kernel_rfl))
  f309 := Tryz.func191.trans (congrArg some (by kernel_rfl))
  f310 := Tryz.func192.trans (congrArg some (by kernel_rfl))
  f329 := Tryz.func173.trans (congrArg some (by kernel_rfl))
  f330 := Tryz.func174.trans (congrArg some (by kernel_rfl))
  f333 := Tryz.func204.trans (congrArg some (by kernel_rfl))
  f334 := Tryz.func205.trans (congrArg some (by kernel_rfl))
  f335 := Tryz.func206.trans (congrArg some (by kernel_rfl))
  f336 := Tryz.func207.trans (congrArg some (by kernel_rfl))
  f344 := Tryz.func216.trans (congrArg some (by kernel_rfl))
  t0 := Tryz.underlying0
  a0 := Tryz.isAgg0
  z0 := Tryz.sizeOf0
  v0 := Tryz.zeroValue0
  t3 := Tryz.underlying3
  a3 := Tryz.isAgg3
  z3 := Tryz.sizeOf3
  v3 := Tryz.zeroValue3
  t4 := Tryz.underlying4
  a4 := Tryz.isAgg4
  z4 := Tryz.sizeOf4
  v4 := Tryz.zeroValue4
  t5 := Tryz.underlying5
  a5 := Tryz.isAgg5
  z5 := Tryz.sizeOf5
  v5 := Tryz.zeroValue5
  t9 := Tryz.underlying9
  a9 := Tryz.isAgg9
  z9 := Tryz.sizeOf9
  v9 := Tryz.zeroValue9
  t31 := Tryz.underlying47
  a31 := Tryz.isAgg47
  z31 := Tryz.sizeOf47
  v31 := Tryz.zeroValue47
  t46 := Tryz.underlying138
  a46 := Tryz.isAgg138
  z46 := Tryz.sizeOf138
  v46 := Tryz.zeroValue138
  t51 := Tryz.underlying163
  a51 := Tryz.isAgg163
  z51 := Tryz.sizeOf163
  v51 := Tryz.zeroValue163
  t53 := Tryz.underlying187
  a53 := Tryz.isAgg187
  z53 := Tryz.sizeOf187
  v53 := Tryz.zeroValue187
  t131 := Tryz.underlying183
  a131 := Tryz.isAgg183
  z131 := Tryz.sizeOf183
  v131 := Tryz.zeroValue183
  t182 := Tryz.underlying177
  a182 := Tryz.isAgg177
  z182 := Tryz.sizeOf177
  v182 := Tryz.zeroValue177
  t183 := Tryz.underlying178
  a183 := Tryz.isAgg178
  z183 := Tryz.sizeOf178
  v183 := Tryz.zeroValue178
  t218 := Tryz.underlying218
  a218 := Tryz.isAgg218
  z218 := Tryz.sizeOf218
  v218 := Tryz.zeroValue218
  t222 := Tryz.underlying222
  a222 := Tryz.isAgg222
  z222 := Tryz.sizeOf222
  v222 := Tryz.zeroValue222
  t228 := Tryz.underlying243
  a228 := Tryz.isAgg243
  z228 := Tryz.sizeOf243
  v228 := Tryz.zeroValue243
  t229 := Tryz.underlying244
  a229 := Tryz.isAgg244
  z229 := Tryz.sizeOf244
  v229 := Tryz.zeroValue244 }
def Tryz.lays110_ren : Go.Shelf.Ren := ⟨fun | 110 => 99 | 109 => 150 | n => n, fun | 31 => 47 | 9 => 9 | 4 => 4 | 3 => 3 | 0 => 0 | n => n, fun | n => n⟩
theorem Tryz.lays110 : Go.Proofs.Lays.n110 Tryz.prog Tryz.lays110_ren := {
  mixed := by kernel_rfl
  f109 := Tryz.func150.trans (congrArg some (by kernel_rfl))
  f110 := Tryz.func99.trans (congrArg some (by kernel_rfl))
  t0 := Tryz.underlying0
  a0 := Tryz.isAgg0
  z0 := Tryz.sizeOf0
  v0 := Tryz.zeroValue0
  t3 := Tryz.underlying3
  a3 := Tryz.isAgg3
  z3 := Tryz.sizeOf3
  v3 := Tryz.zeroValue3
  t4 := Tryz.underlying4
  a4 := Tryz.isAgg4
  z4 := Tryz.sizeOf4
  v4 := Tryz.zeroValue4
  t9 := Tryz.underlying9
  a9 := Tryz.isAgg9
  z9 := Tryz.sizeOf9
  v9 := Tryz.zeroValue9
  t31 := Tryz.underlying47
  a31 := Tryz.isAgg47
  z31 := Tryz.sizeOf47
  v31 := Tryz.zeroValue47 }
def Tryz.keys77_ren : Go.Shelf.Ren := ⟨fun | 7 => 77 | 10 => 115 | n => n, fun | 23 => 84 | 26 => 9 | 3 => 100 | 28 => 125 | 0 => 0 | 27 => 124 | 33 => 146 | 4 => 4 | n => n, fun | n => n⟩
theorem Tryz.keys77 : Go.Proofs.SlLaysZ.n7 Tryz.prog Tryz.keys77_ren := {
  mixed := by kernel_rfl
  f7 := ⟨Tryz.f77.name, by decide, Tryz.func77.trans (congrArg some (by kernel_rfl))⟩
  f10 := ⟨Tryz.f115.name, by decide, Tryz.func115.trans (congrArg some (by kernel_rfl))⟩
  t0 := Tryz.underlying0
  a0 := Tryz.isAgg0
  z0 := Tryz.sizeOf0
  v0 := Tryz.zeroValue0
  t4 := Tryz.underlying4
  a4 := Tryz.isAgg4
  z4 := Tryz.sizeOf4
  v4 := Tryz.zeroValue4
  t23 := Tryz.underlying84
  a23 := Tryz.isAgg84
  z23 := Tryz.sizeOf84
  v23 := Tryz.zeroValue84
  t26 := Tryz.underlying9
  a26 := Tryz.isAgg9
  z26 := Tryz.sizeOf9
  v26 := Tryz.zeroValue9
  t27 := Tryz.underlying124
  a27 := Tryz.isAgg124
  z27 := Tryz.sizeOf124
  v27 := Tryz.zeroValue124
  t28 := Tryz.underlying125
  a28 := Tryz.isAgg125
  z28 := Tryz.sizeOf125
  v28 := Tryz.zeroValue125
  t33 := Tryz.underlying146
  a33 := Tryz.isAgg146
  z33 := Tryz.sizeOf146
  v33 := Tryz.zeroValue146 }
def Tryz.sorted76_ren : Go.Shelf.Ren := ⟨fun | 6 => 76 | 8 => 113 | 9 => 114 | 11 => 160 | 13 => 83 | 12 => 161 | 23 => 135 | 24 => 136 | 14 => 184 | 15 => 185 | 16 => 186 | 17 => 187 | 18 => 188 | 19 => 189 | 20 => 190 | 21 => 191 | 22 => 192 | 25 => 204 | 26 => 173 | 27 => 174 | 28 => 205 | 29 => 206 | 30 => 207 | 31 => 216 | n => n, fun | 26 => 9 | 28 => 125 | 24 => 47 | 0 => 0 | 3 => 3 | 37 => 138 | 48 => 163 | 50 => 187 | 4 => 4 | 40 => 178 | 39 => 177 | 45 => 183 | 5 => 5 | 9 => 9 | 51 => 218 | 55 => 222 | 57 => 243 | 58 => 244 | 33 => 146 | n => n, fun | n => n⟩
theorem Tryz.sorted76 : Go.Proofs.SlLaysZ.n6 Tryz.prog Tryz.sorted76_ren := {
  mixed := by kernel_rfl
  f6 := ⟨Tryz.f76.name, by decide, Tryz.func76.trans (congrArg some (by kernel_rfl))⟩
  f8 := ⟨Tryz.f113.name, by decide, Tryz.func113.trans (congrArg some (by kernel_rfl))⟩
  f11 := ⟨Tryz.f160.name, by decide, Tryz.func160.trans (congrArg some (by kernel_rfl))⟩
  t0 := Tryz.underlying0
  a0 := Tryz.isAgg0
  z0 := Tryz.sizeOf0
  v0 := Tryz.zeroValue0
  t24 := Tryz.underlying47
  a24 := Tryz.isAgg47
  z24 := Tryz.sizeOf47
  v24 := Tryz.zeroValue47
  t26 := Tryz.underlying9
  a26 := Tryz.isAgg9
  z26 := Tryz.sizeOf9
  v26 := Tryz.zeroValue9
  t28 := Tryz.underlying125
  a28 := Tryz.isAgg125
  z28 := Tryz.sizeOf125
  v28 := Tryz.zeroValue125
  i26 := by kernel_rfl }
def Tryz.sort114_ren : Go.Shelf.Ren := ⟨fun | 6 => 114 | 8 => 83 | 9 => 161 | 19 => 135 | 20 => 136 | 21 => 184 | 22 => 185 | 23 => 186 | 24 => 187 | 25 => 188 | 26 => 189 | 27 => 190 | 28 => 191 | 29 => 192 | 36 => 204 | 31 => 173 | 32 => 174 | 37 => 205 | 38 => 206 | 39 => 207 | 41 => 216 | n => n, fun | 27 => 47 | 29 => 9 | 3 => 3 | 32 => 138 | 26 => 47 | 0 => 0 | 44 => 163 | 46 => 187 | 4 => 4 | 36 => 178 | 35 => 177 | 41 => 183 | 5 => 5 | 9 => 9 | 53 => 218 | 57 => 222 | 63 => 243 | 64 => 244 | n => n, fun | n => n⟩
theorem Tryz.sort114 : Go.Proofs.SlLaysM.n6 Tryz.prog Tryz.sort114_ren := {
  mixed := by kernel_rfl
  f6 := ⟨Tryz.f114.name, by decide, Tryz.func114.trans (congrArg some (by kernel_rfl))⟩
  f8 := Tryz.func83.trans (congrArg some (by kernel_rfl))
  f9 := ⟨Tryz.f161.name, by decide, Tryz.func161.trans (congrArg some (by kernel_rfl))⟩
  f19 := Tryz.func135.trans (congrArg some (by kernel_rfl))
  f20 := Tryz.func136.trans (congrArg some (by kernel_rfl))
  f21 := ⟨Tryz.f184.name, by decide, Tryz.func184.trans (congrArg some (by kernel_rfl))⟩
  f22 := ⟨Tryz.f185.name, by decide, Tryz.func185.trans (congrArg some (by kernel_rfl))⟩
  f23 := ⟨Tryz.f186.name, by decide, Tryz.func186.trans (congrArg some (by kernel_rfl))⟩
  f24 := ⟨Tryz.f187.name, by decide, Tryz.func187.trans (congrArg some (by kernel_rfl))⟩
  f25 := ⟨Tryz.f188.name, by decide, Tryz.func188.trans (congrArg some (by kernel_rfl))⟩
  f26 := ⟨Tryz.f189.name, by decide, Tryz.func189.trans (congrArg some (by kernel_rfl))⟩
  f27 := ⟨Tryz.f190.name, by decide, Tryz.func190.trans (congrArg some (by kernel_rfl))⟩
  f28 := ⟨Tryz.f191.name, by decide, Tryz.func191.trans (congrArg some (by kernel_rfl))⟩
  f29 := ⟨Tryz.f192.name, by decide, Tryz.func192.trans (congrArg some (by kernel_rfl))⟩
  f31 := Tryz.func173.trans (congrArg some (by kernel_rfl))
  f32 := Tryz.func174.trans (congrArg some (by kernel_rfl))
  f36 := ⟨Tryz.f204.name, by decide, Tryz.func204.trans (congrArg some (by kernel_rfl))⟩
  f37 := ⟨Tryz.f205.name, by decide, Tryz.func205.trans (congrArg some (by kernel_rfl))⟩
  f38 := ⟨Tryz.f206.name, by decide, Tryz.func206.trans (congrArg some (by kernel_rfl))⟩
  f39 := ⟨Tryz.f207.name, by decide, Tryz.func207.trans (congrArg some (by kernel_rfl))⟩
  f41 := ⟨Tryz.f216.name, by decide, Tryz.func216.trans (congrArg some (by kernel_rfl))⟩
  t0 := Tryz.underlying0
  a0 := Tryz.isAgg0
  z0 := Tryz.sizeOf0
  v0 := Tryz.zeroValue0
  t3 := Tryz.underlying3
  a3 := Tryz.isAgg3
  z3 := Tryz.sizeOf3
  v3 := Tryz.zeroValue3
  t4 := Tryz.underlying4
  a4 := Tryz.isAgg4
  z4 := Tryz.sizeOf4
  v4 := Tryz.zeroValue4
  t5 := Tryz.underlying5
  a5 := Tryz.isAgg5
  z5 := Tryz.sizeOf5
  v5 := Tryz.zeroValue5
  t9 := Tryz.underlying9
  a9 := Tryz.isAgg9
  z9 := Tryz.sizeOf9
  v9 := Tryz.zeroValue9
  t26 := Tryz.underlying47
  a26 := Tryz.isAgg47
  z26 := Tryz.sizeOf47
  v26 := Tryz.zeroValue47
  t27 := Tryz.underlying47
  a27 := Tryz.isAgg47
  z27 := Tryz.sizeOf47
  v27 := Tryz.zeroValue47
  t29 := Tryz.underlying9
  a29 := Tryz.isAgg9
  z29 := Tryz.sizeOf9
  v29 := Tryz.zeroValue9
  t32 := Tryz.underlying138
  a32 := Tryz.isAgg138
  z32 := Tryz.sizeOf138
  v32 := Tryz.zeroValue138
  t35 := Tryz.underlying177
  a35 := Tryz.isAgg177
  z35 := Tryz.sizeOf177
  v35 := Tryz.zeroValue177
  t36 := Tryz.underlying178
  a36 := Tryz.isAgg178
  z36 := Tryz.sizeOf178
  v36 := Tryz.zeroValue178
  t41 := Tryz.underlying183
  a41 := Tryz.isAgg183
  z41 := Tryz.sizeOf183
  v41 := Tryz.zeroValue183
  t44 := Tryz.underlying163
  a44 := Tryz.isAgg163
  z44 := Tryz.sizeOf163
  v44 := Tryz.zeroValue163
  t46 := Tryz.underlying187
  a46 := Tryz.isAgg187
  z46 := Tryz.sizeOf187
  v46 := Tryz.zeroValue187
  t53 := Tryz.underlying218
  a53 := Tryz.isAgg218
  z53 := Tryz.sizeOf218
  v53 := Tryz.zeroValue218
  t57 := Tryz.underlying222
  a57 := Tryz.isAgg222
  z57 := Tryz.sizeOf222
  v57 := Tryz.zeroValue222
  t63 := Tryz.underlying243
  a63 := Tryz.isAgg243
  z63 := Tryz.sizeOf243
  v63 := Tryz.zeroValue243
  t64 := Tryz.underlying244
  a64 := Tryz.isAgg244
  z64 := Tryz.sizeOf244
  v64 := Tryz.zeroValue244 }
end Go.Proofs
/- The library's functions, by their contracts. -/
namespace Go.Proofs.YtaeefjcbmkiiaaaGreatDoor
open Go Go.RowKit Sl
def strE : EncT (List UInt8) where
  enc l := [vs l]
  dec := fun l => match l with | [.string s] => s.data.toList | _ => []
  sz := 1
  dflt := []
  len _ := rfl
  ok _ := rfl
  pos := by decide
def intE : EncT Int where
  enc n := [.int .i64 n]
  dec := fun l => match l with | [.int _ n] => n | _ => 0
  sz := 1
  dflt := 0
  len _ := rfl
  ok _ := rfl
  pos := by decide
/-- What the shelf says, as a contract. -/
theorem Tr.of_below {f : FuncId} {args : List Value} {q : Value → Prop} (h : ∀ w, Calls Tryz.prog f args.toArray w fun e w' => (∃ v, e = .returned v ∧ q v) ∧ Below w.heap.size w w') : Tr Tryz.prog f args [] fun v Γ => q v ∧ Γ = [] :=
  Tr.below fun w => (h w).mono fun e w' ⟨⟨v, he, hq⟩, hb⟩ => ⟨v, he, hq, hb⟩
theorem Tr.of_same {f : FuncId} {args : List Value} {v : Value} (h : ∀ w, Calls Tryz.prog f args.toArray w fun e w' => e = .returned v ∧ w' = w) : Tr Tryz.prog f args [] fun r Γ => r = v ∧ Γ = [] :=
  Tr.below fun w => (h w).mono fun e w' ⟨he, hw⟩ => ⟨v, he, rfl, by subst hw; exact Below.refl _ _⟩
theorem trimS_nil (s cs : List UInt8) : Lib.trimS s cs = [] ↔ s.all (fun b => cs.contains b) = true := by
  have key : ∀ (l : List UInt8), l.dropWhile (cs.contains ·) = [] ↔ l.all (fun b => cs.contains b) = true := by
    intro l
    induction l with
    | nil => simp
    | cons x l ih =>
      by_cases h : cs.contains x = true
      · rw [List.dropWhile_cons_of_pos h, ih, List.all_cons, h, Bool.true_and]
      · rw [List.dropWhile_cons_of_neg h, List.all_cons]
        have : cs.contains x = false := by simpa using h
        rw [this]; simp
  have key2 : ∀ l : List UInt8, (l.dropWhile (cs.contains ·)).all (fun b => cs.contains b) = true ↔ l.all (fun b => cs.contains b) = true := by
    intro l
    induction l with
    | nil => simp
    | cons x l ih =>
      by_cases h : cs.contains x = true
      · rw [List.dropWhile_cons_of_pos h, ih, List.all_cons, h, Bool.true_and]
      · rw [List.dropWhile_cons_of_neg h]
  unfold Lib.trimS Lib.trimLeftS Lib.trimRightS
  rw [key, List.all_reverse, key2, List.all_reverse]
theorem trim_tr (s cs : List UInt8) (h : cs.all (fun b => decide (b.toNat < 128)) = true) (h2 : cs.length ≤ 1000) (h3 : s.length ≤ 9223372036854775807) : Tr Tryz.prog 80 [vs s, vs cs] [] fun v Γ => (∃ r, v = vs r ∧ (r = [] ↔ s.all (fun b => cs.contains b) = true)) ∧ Γ = [] := by
  refine Tr.of_below fun w => (Any.strings_Trim_laid Tryz.lays160 (by kernel_rfl) (bs s) (bs cs) w (by rw [bs_size]; exact h3) (by rw [bs_size]; omega) (ascii_of_all (by simpa using h))).mono ?_
  rintro e w' ⟨rfl, hb⟩
  exact ⟨⟨_, rfl, Lib.trimS s cs, by simp, trimS_nil s cs⟩, hb⟩
theorem itoa_tr (n : Nat) (h : n < 100) : Tr Tryz.prog 75 [.int .i64 n] [] fun v Γ => v = vs (Lib.decDigits n) ∧ Γ = [] :=
  Tr.of_same fun w => Any.strconv_Itoa_small Tryz.lays171 n h w
end Go.Proofs.YtaeefjcbmkiiaaaGreatDoor
/- The codec's writer, walked. -/
namespace Go.Proofs.YtaeefjcbmkiiaaaGreatDoor
open Go Sl
attribute [local irreducible] J JR JS RO CR Arr Sat Tr sat blk
set_option linter.unusedVariables false
set_option maxHeartbeats 400000
set_option maxRecDepth 4000

theorem fdiv_nat (a b : Nat) : (a : Int).fdiv (b : Int) = ((a / b : Nat) : Int) := by
  rw [Int.fdiv_eq_ediv_of_nonneg _ (Int.natCast_nonneg _)]; rfl
theorem shr_nat (i : IntKind) (v n : Nat) (h : n ≤ i.bits) : (v : Int).fdiv (2 ^ (min (n : Int).toNat i.bits)) = ((v / 2 ^ n : Nat) : Int) := by
  have : min (n : Int).toNat i.bits = n := by rw [Int.toNat_natCast]; exact Nat.min_eq_left h
  rw [this, show ((2 : Int) ^ n) = ((2 ^ n : Nat) : Int) by simp, fdiv_nat]
theorem wrap_u8 (n : Nat) : IntKind.u8.wrap (n : Int) = ((n % 256 : Nat) : Int) := by
  unfold IntKind.wrap; simp [IntKind.bits, IntKind.signed]
theorem wrap_u64 (n : Nat) : IntKind.u64.wrap (n : Int) = ((n % 18446744073709551616 : Nat) : Int) := by
  unfold IntKind.wrap; simp [IntKind.bits, IntKind.signed]
theorem wrap_u32 (n : Nat) : IntKind.u32.wrap (n : Int) = ((n % 4294967296 : Nat) : Int) := by
  unfold IntKind.wrap; simp [IntKind.bits, IntKind.signed]
theorem ofNat_mod (n : Nat) : ((UInt8.ofNat n).toNat : Int) = ((n % 256 : Nat) : Int) := by simp
theorem or128 (x : Nat) (h : x < 256) : x ||| 128 = x % 128 + 128 := by
  have : ∀ x : Fin 256, x.val ||| 128 = x.val % 128 + 128 := by decide
  exact this ⟨x, h⟩
theorem and127 (x : Nat) : x &&& 127 = x % 128 := Nat.and_two_pow_sub_one_eq_mod x 7
theorem byte_or (x : Nat) : IntKind.u8.wrap ((BitVec.ofInt IntKind.u8.bits ((x % 256 : Nat) : Int) ||| BitVec.ofInt IntKind.u8.bits (128 : Int)).toNat : Int) = ((UInt8.ofNat (x % 128 + 128)).toNat : Int) := by
  show IntKind.u8.wrap ((BitVec.ofInt 8 ((x % 256 : Nat) : Int) ||| BitVec.ofInt 8 ((128 : Nat) : Int)).toNat : Int) = _
  rw [BitVec.ofInt_natCast, BitVec.ofInt_natCast, wrap_u8, BitVec.toNat_or, BitVec.toNat_ofNat, BitVec.toNat_ofNat]
  rw [ofNat_mod]
  congr 1
  have : (x % 256 % 2 ^ 8 ||| 128 % 2 ^ 8) = x % 256 ||| 128 := by simp
  rw [this, or128 _ (by omega)]
  omega
theorem byte_and (x : Nat) : IntKind.u8.wrap ((BitVec.ofInt IntKind.u8.bits ((x % 256 : Nat) : Int) &&& BitVec.ofInt IntKind.u8.bits (127 : Int)).toNat : Int) = ((UInt8.ofNat (x % 128)).toNat : Int) := by
  show IntKind.u8.wrap ((BitVec.ofInt 8 ((x % 256 : Nat) : Int) &&& BitVec.ofInt 8 ((127 : Nat) : Int)).toNat : Int) = _
  rw [BitVec.ofInt_natCast, BitVec.ofInt_natCast, wrap_u8, BitVec.toNat_and, BitVec.toNat_ofNat, BitVec.toNat_ofNat]
  rw [ofNat_mod]
  congr 1
  have : (x % 256 % 2 ^ 8 &&& 127 % 2 ^ 8) = x % 256 &&& 127 := by simp
  rw [this, and127]
  omega
theorem pow7 (j : Nat) : 2 ^ (7 * j) = 128 ^ j := by rw [Nat.pow_mul]

theorem natural_tr (E : TypeId) [hE : BdT E] (b : Nat) (p v : Value) (hp : BP b p) (L : List UInt8) (x : Nat) (hx : x < 18446744073709551616) (hl : L.length ≤ 1000000000) :
    Tr Tryz.prog 151 [.pointer (some ⟨b, 0, none⟩), .int .u64 x] [blk b (bcell E p v), sl 5 byteE v L]
      fun r Γ => ∃ v', Γ = [blk b (bcell E (.pointer (some ⟨b, 0, none⟩)) v'), sl 5 byteE v' (L ++ encNat x)] := by
  have hg9 : glen (x / 128) ≤ 9 := glen_bound _ 9 (by have : x / 128 < 144115188075855872 := by omega
                                                      omega)
  refine Tr_of_J Tryz.func151 follows rfl Tryz.ntmps151 (by simp) fun B F => ?_
  repeat' (first | refine shr (r := ((x / 128 : Nat) : Int)) ?_ (shr_nat .u64 x 7 (by decide)) | refine mv ?_ | refine asn ?_ | refine jn ?_ | refine nl ?_ | refine nc ?_ | refine f0 ?_ | refine sq ?_ | refine rg ?_ | refine ad ?_ | refine sb ?_ | refine gtr ?_ | refine kp ?_ | refine ct ?_ | refine cf ?_ | (refine cd (fun hc => ?_) (fun hc => ?_) <;> try (exfalso; omega)) | (refine cn (fun hc => ?_) (fun hc => ?_) <;> try (exfalso; omega)) | refine bl ?_ | refine ib ?_ | refine xt ?_ | refine fe ?_ | refine fa ?_ | refine cc ?_ | refine cv ?_ | refine af_ ?_ | refine aw ?_ | refine sw ?_ | refine cb (fun hc => ?_) (fun hc => ?_) | refine J_draw (id := 7) [(0, true, []), (1, true, []), (2, true, []), (3, true, []), (4, true, []), (5, true, []), (6, true, []), (7, true, []), (8, false, [])] (by kernel_rfl) ?_)
  refine lp (α := Nat × Int × Int) (fun y => [(0, .pointer (some ⟨b, 0, none⟩)), (1, .int .u64 x), (4, .int .i64 y.2.1), (5, .int .u64 y.2.2)]) (fun y => [blk b (bcell E p v), sl 5 byteE v L]) (fun y => y.2.1 = (7 * y.1 : Nat) ∧ y.2.2 = ((x / 128 / 128 ^ y.1 : Nat) : Int) ∧ y.1 ≤ glen (x / 128)) (fun y => glen (x / 128) - y.1) (0, 0, ((x / 128 : Nat) : Int)) ?_ ⟨rfl, by simp, Nat.zero_le _⟩
  rintro ⟨j, n, k⟩ ⟨hn, hk, hj⟩ again
  dsimp only at hn hk hj again ⊢
  subst hn hk
  have hq : ((x / 128 / 128 ^ j / 2 ^ 7 : Nat) : Int) = ((x / 128 / 128 ^ (j + 1) : Nat) : Int) := by
    show ((x / 128 / 128 ^ j / 128 : Nat) : Int) = _
    rw [Nat.div_div_eq_div_mul _ (128 ^ j) 128, ← Nat.pow_succ]
  repeat' (first | refine shr (r := ((x / 128 / 128 ^ (j + 1) : Nat) : Int)) ?_ ((shr_nat .u64 (x / 128 / 128 ^ j) 7 (by decide)).trans hq) | refine mv ?_ | refine asn ?_ | refine jn ?_ | refine nl ?_ | refine nc ?_ | refine f0 ?_ | refine sq ?_ | refine rg ?_ | refine ad ?_ | refine sb ?_ | refine gtr ?_ | refine kp ?_ | refine ct ?_ | refine cf ?_ | (refine cd (fun hc => ?_) (fun hc => ?_) <;> try (exfalso; omega)) | (refine cn (fun hc => ?_) (fun hc => ?_) <;> try (exfalso; omega)) | refine bl ?_ | refine ib ?_ | refine xt ?_ | refine fe ?_ | refine fa ?_ | refine cc ?_ | refine cv ?_ | refine af_ ?_ | refine aw ?_ | refine sw ?_ | refine cb (fun hc => ?_) (fun hc => ?_) | refine J_draw (id := 7) [(0, true, []), (1, true, []), (2, true, []), (3, true, []), (4, true, []), (5, true, []), (6, true, []), (7, true, []), (8, false, [])] (by kernel_rfl) ?_)
  · exact ag (again (j + 1, ((7 * j : Nat) : Int) + 7, ((x / 128 / 128 ^ (j + 1) : Nat) : Int)) ⟨by dsimp only; omega, rfl, by
      dsimp only
      rcases Nat.lt_or_ge j (glen (x / 128)) with h | h
      · exact h
      · have : j = glen (x / 128) := by omega
        rw [this, glen_top] at hc; exact absurd hc (by decide)⟩ (by
      rcases Nat.lt_or_ge j (glen (x / 128)) with h | h
      · dsimp only; omega
      · have : j = glen (x / 128) := by omega
        rw [this, glen_top] at hc; exact absurd hc (by decide)))
  have hjg : j = glen (x / 128) := by
    rcases Nat.lt_or_ge j (glen (x / 128)) with h | h
    · exact absurd (Int.natCast_pos.2 (Nat.pos_of_ne_zero (glen_below _ j h))) hc
    · omega
  subst hjg
  clear again hc hj
  refine J_sat (Γ' := [blk b (bcell E p v), sl 5 byteE v (L ++ natHi (x / 128 / 128 ^ glen (x / 128)))]) ?_ (fun w hS => by rw [glen_top, natHi_zero, List.append_nil]; exact hS)
  refine lp (α := Nat × Int × Value × Value) (fun y => [(0, .pointer (some ⟨b, 0, none⟩)), (1, .int .u64 x), (4, .int .i64 y.2.1)]) (fun y => [blk b (bcell E y.2.2.1 y.2.2.2), sl 5 byteE y.2.2.2 (L ++ natHi (x / 128 / 128 ^ y.1))]) (fun y => y.2.1 = (7 * y.1 : Nat) ∧ y.1 ≤ glen (x / 128) ∧ BP b y.2.2.1) (fun y => y.1) (glen (x / 128), ((7 * glen (x / 128) : Nat) : Int), p, v) ?_ ⟨rfl, Nat.le_refl _, hp⟩
  rintro ⟨j, n, p1, v1⟩ ⟨hn, hj, hp1⟩ again
  dsimp only at hn hj hp1 again ⊢
  subst hn
  have hlen : (L ++ natHi (x / 128 / 128 ^ j)).length + 1 ≤ 140737488355328 := by
    have : glen (x / 128 / 128 ^ j) ≤ 9 := glen_bound _ 9 (by
      have h1 : x / 128 / 128 ^ j ≤ x / 128 := Nat.div_le_self _ _
      have : x / 128 < 144115188075855872 := by omega
      omega)
    rw [List.length_append, natHi_length]; omega
  repeat' (first | (refine shr (r := ((x / 2 ^ (7 * j) : Nat) : Int)) ?_ (shr_nat .u64 x (7 * j) (by show 7 * j ≤ 64; omega))) | (refine cvr (r := ((x / 2 ^ (7 * j) % 256 : Nat) : Int)) ?_ (wrap_u8 _)) | (refine cvr (r := ((x % 256 : Nat) : Int)) ?_ (wrap_u8 _)) | (refine bor ?_ (byte_or (x / 2 ^ (7 * j)))) | (refine band ?_ (byte_and x)) | (refine cl (wbyte_tr E b p1 v1 hp1 _ _ hlen) ?_; rintro r Γ' ⟨v2, rfl⟩; refine n2 ?_) | refine mv ?_ | refine asn ?_ | refine jn ?_ | refine nl ?_ | refine nc ?_ | refine f0 ?_ | refine sq ?_ | refine rg ?_ | refine ad ?_ | refine sb ?_ | refine gtr ?_ | refine kp ?_ | refine ct ?_ | refine cf ?_ | (refine cd (fun hc => ?_) (fun hc => ?_) <;> try (exfalso; omega)) | (refine cn (fun hc => ?_) (fun hc => ?_) <;> try (exfalso; omega)) | refine bl ?_ | refine ib ?_ | refine xt ?_ | refine fe ?_ | refine fa ?_ | refine cc ?_ | refine cv ?_ | refine af_ ?_ | refine aw ?_ | refine sw ?_ | refine cb (fun hc => ?_) (fun hc => ?_) | refine J_draw (id := 7) [(0, true, []), (1, true, []), (2, true, []), (3, true, []), (4, true, []), (5, true, []), (6, true, []), (7, true, []), (8, false, [])] (by kernel_rfl) ?_)
  · obtain ⟨i, rfl⟩ : ∃ i, j = i + 1 := ⟨j - 1, by omega⟩
    have hne := glen_below (x / 128) i (by omega)
    have e1 : x / 2 ^ (7 * (i + 1)) = x / 128 / 128 ^ i := by rw [pow7, Nat.pow_succ, Nat.mul_comm, ← Nat.div_div_eq_div_mul]
    have e2 : L ++ natHi (x / 128 / 128 ^ (i + 1)) ++ [UInt8.ofNat (x / 2 ^ (7 * (i + 1)) % 128 + 128)] = L ++ natHi (x / 128 / 128 ^ i) := by
      rw [e1, natHi_pos hne, List.append_assoc, Nat.pow_succ, ← Nat.div_div_eq_div_mul]
    rw [e2]
    exact ag (again (i, ((7 * (i + 1) : Nat) : Int) - 7, .pointer (some ⟨b, 0, none⟩), v2) ⟨by dsimp only; omega, by dsimp only; omega, .inr rfl⟩ (by dsimp only; omega))
  · have hj0 : j = 0 := by omega
    subst hj0
    rw [Nat.pow_zero, Nat.div_one, List.append_assoc]
    refine rte ?_
    exact ⟨_, ⟨_, rfl⟩, _, by repeat constructor⟩

theorem zig_num (n : Int) (h1 : -9223372036854775808 ≤ n) (h2 : n ≤ 9223372036854775807) : IntKind.u64.wrap ((BitVec.ofInt IntKind.u64.bits (IntKind.u64.wrap (IntKind.u64.wrap n * 2 ^ (min (1 : Int).toNat IntKind.u64.bits))) ^^^ BitVec.ofInt IntKind.u64.bits (IntKind.u64.wrap (n.fdiv (2 ^ (min (63 : Int).toNat IntKind.i64.bits))))).toNat : Int) = ((zig n : Nat) : Int) := by
  have hw : ∀ m : Int, IntKind.u64.wrap m = m % 18446744073709551616 := fun m => by unfold IntKind.wrap; simp [IntKind.bits, IntKind.signed]
  show IntKind.u64.wrap ((BitVec.ofInt 64 (IntKind.u64.wrap (IntKind.u64.wrap n * 2)) ^^^ BitVec.ofInt 64 (IntKind.u64.wrap (n.fdiv 9223372036854775808))).toNat : Int) = _
  rw [hw, hw, hw, hw]
  by_cases h0 : 0 ≤ n
  · have e1 : n.fdiv 9223372036854775808 = 0 := by rw [Int.fdiv_eq_ediv_of_nonneg _ (by decide)]; omega
    obtain ⟨m, rfl⟩ : ∃ m : Nat, n = m := ⟨n.toNat, by omega⟩
    have e2 : (m : Int) % 18446744073709551616 * 2 % 18446744073709551616 = ((2 * m : Nat) : Int) := by omega
    rw [e1, e2]
    show ((BitVec.ofInt 64 ((2 * m : Nat) : Int) ^^^ BitVec.ofInt 64 ((0 : Nat) : Int)).toNat : Int) % _ = _
    rw [BitVec.ofInt_natCast, BitVec.ofInt_natCast, BitVec.toNat_xor, BitVec.toNat_ofNat, BitVec.toNat_ofNat]
    simp only [zig, h0, if_true]
    have e3 : 2 * m % 2 ^ 64 ^^^ 0 % 2 ^ 64 = 2 * m % 2 ^ 64 := by simp
    rw [e3]
    omega
  · have e1 : n.fdiv 9223372036854775808 = -1 := by rw [Int.fdiv_eq_ediv_of_nonneg _ (by decide)]; omega
    obtain ⟨m, hm⟩ : ∃ m : Nat, n = -(m : Int) - 1 := ⟨(-n - 1).toNat, by omega⟩
    have e2 : n % 18446744073709551616 * 2 % 18446744073709551616 = ((18446744073709551614 - 2 * m : Nat) : Int) := by omega
    rw [e1, e2]
    show ((BitVec.ofInt 64 ((18446744073709551614 - 2 * m : Nat) : Int) ^^^ BitVec.ofInt 64 ((18446744073709551615 : Nat) : Int)).toNat : Int) % _ = _
    rw [BitVec.ofInt_natCast, BitVec.ofInt_natCast, show BitVec.ofNat 64 18446744073709551615 = BitVec.allOnes 64 from rfl, BitVec.xor_allOnes, BitVec.toNat_not, BitVec.toNat_ofNat]
    simp only [zig, h0, if_false]
    omega
theorem int_tr (E : TypeId) [hE : BdT E] (b : Nat) (p v : Value) (hp : BP b p) (L : List UInt8) (n : Int) (h1 : -9223372036854775808 ≤ n) (h2 : n ≤ 9223372036854775807) (hl : L.length ≤ 1000000000) :
    Tr Tryz.prog 101 [.pointer (some ⟨b, 0, none⟩), .int .i64 n] [blk b (bcell E p v), sl 5 byteE v L]
      fun r Γ => ∃ v', Γ = [blk b (bcell E (.pointer (some ⟨b, 0, none⟩)) v'), sl 5 byteE v' (L ++ encInt n)] := by
  refine Tr_of_J Tryz.func101 follows rfl Tryz.ntmps101 (by simp) fun B F => ?_
  repeat' (first | refine shl ?_ | refine shr ?_ | refine bxor ?_ (zig_num n h1 h2) | (refine cl (natural_tr E b p v hp L (zig n) (zig_lt h1 h2) hl) ?_; rintro r Γ' ⟨v2, rfl⟩; refine n2 ?_) | refine mv ?_ | refine jn ?_ | refine nl ?_ | refine sq ?_ | refine rg ?_ | refine kp ?_ | refine ct ?_ | refine cf ?_ | (refine cd (fun hc => ?_) (fun hc => ?_) <;> try (exfalso; omega)) | (refine cn (fun hc => ?_) (fun hc => ?_) <;> try (exfalso; omega)) | refine bl ?_ | refine ib ?_ | refine xt ?_ | refine cv ?_ | refine cb (fun hc => ?_) (fun hc => ?_))
  refine rte ?_
  exact ⟨_, ⟨_, rfl⟩, _, by repeat constructor⟩
theorem text_tr (E : TypeId) [hE : BdT E] (b : Nat) (p v : Value) (hp : BP b p) (L s : List UInt8) (hs : s.length ≤ 1000000000) (hl : L.length ≤ 1000000000) :
    Tr Tryz.prog 149 [.pointer (some ⟨b, 0, none⟩), vs s] [blk b (bcell E p v), sl 5 byteE v L]
      fun r Γ => ∃ v', Γ = [blk b (bcell E (.pointer (some ⟨b, 0, none⟩)) v'), sl 5 byteE v' (L ++ encText s)] := by
  have hq := (encInt_length (n := s.length) (by omega) (by omega)).2
  refine Tr_of_J Tryz.func149 follows rfl Tryz.ntmps149 (by simp) fun B F => ?_
  repeat' (first | (refine cl (int_tr E b p v hp L s.length (by omega) (by omega) hl) ?_; rintro r Γ' ⟨v2, rfl⟩; refine n2 ?_) | (refine cl (wstr_tr E b (.pointer (some ⟨b, 0, none⟩)) v2 (.inr rfl) (L ++ encInt s.length) s (by rw [List.length_append]; omega)) ?_; rintro r Γ' ⟨v3, rfl⟩; refine n2 ?_) | refine mv ?_ | refine jn ?_ | refine nl ?_ | refine nc ?_ | refine f0 ?_ | refine sq ?_ | refine rg ?_ | refine lnb ?_ | refine lls rfl ?_ | refine kp ?_ | refine ct ?_ | refine cf ?_ | (refine cd (fun hc => ?_) (fun hc => ?_) <;> try (exfalso; omega)) | (refine cn (fun hc => ?_) (fun hc => ?_) <;> try (exfalso; omega)) | refine bl ?_ | refine ib ?_ | refine xt ?_ | refine fe ?_ | refine fa ?_ | refine cb (fun hc => ?_) (fun hc => ?_))
  rw [List.append_assoc]
  refine rte ?_
  exact ⟨_, ⟨_, rfl⟩, _, by repeat constructor⟩
instance : TEnc 3 intE := ⟨trivial⟩
instance : TEnc 9 strE := ⟨trivial⟩
/-- All of a list, one behind another: numbers. -/
theorem eachInt_tr (E : TypeId) [hE : BdT E] (b : Nat) (p v lv : Value) (hp : BP b p) (L : List UInt8) (l : List Int) (hr : ∀ n ∈ l, -9223372036854775808 ≤ n ∧ n ≤ 9223372036854775807) (hl : L.length + 10 * l.length ≤ 1000000000) :
    Tr Tryz.prog 100 [lv, .func (.func 101) ⟨[.pointer (some ⟨b, 0, none⟩)]⟩ #[]] [sl 3 intE lv l, blk b (bcell E p v), sl 5 byteE v L]
      fun r Γ => ∃ p' v', BP b p' ∧ Γ = [sl 3 intE lv l, blk b (bcell E p' v'), sl 5 byteE v' (L ++ encInts l)] := by
  have hlen : ∀ i, i ≤ l.length → (encInts (l.take i)).length ≤ 10 * i := by
    intro i
    induction i with
    | zero => intro _; simp [encInts]
    | succ i ih =>
      intro hi
      rw [List.take_succ_eq_append_getElem (by omega), encInts, List.flatMap_append, List.length_append]
      have h1 := ih (by omega)
      have h2 := hr (l[i]'(by omega)) (List.getElem_mem _)
      have := (encInt_length h2.1 h2.2).2
      simp only [List.flatMap_cons, List.flatMap_nil, List.append_nil]
      unfold encInts at h1
      omega
  refine Tr_of_J Tryz.func100 follows rfl Tryz.ntmps100 (by simp) fun B F => ?_
  repeat' (first | refine mv ?_ | refine asn ?_ | refine jn ?_ | refine nl ?_ | refine ld rfl ?_ | refine sq ?_ | refine rg ?_ | refine lnb ?_ | refine lls rfl ?_ | refine ad ?_ | refine lss ?_ | refine kp ?_ | refine ct ?_ | refine cf ?_ | (refine cd (fun hc => ?_) (fun hc => ?_) <;> try (exfalso; omega)) | (refine cn (fun hc => ?_) (fun hc => ?_) <;> try (exfalso; omega)) | refine bl ?_ | refine ib ?_ | refine xt ?_ | refine la rfl ?_ | refine ixa rfl rfl ?_ | refine lde rfl ?_ | refine lae rfl ?_ | refine cc ?_ | refine af_ ?_ | refine aw ?_ | refine cb (fun hc => ?_) (fun hc => ?_))
  refine lp (α := Nat × Int × Value × Value × List UInt8) (fun y => [(1, .func (.func 101) ⟨[.pointer (some ⟨b, 0, none⟩)]⟩ #[]), (6, lv), (7, .int .i64 l.length), (8, .int .i64 y.2.1)]) (fun y => [sl 3 intE lv l, blk b (bcell E y.2.2.1 y.2.2.2.1), sl 5 byteE y.2.2.2.1 y.2.2.2.2]) (fun y => y.2.1 = (y.1 : Int) ∧ y.1 ≤ l.length ∧ BP b y.2.2.1 ∧ y.2.2.2.2 = L ++ encInts (l.take y.1)) (fun y => l.length - y.1) (0, 0, p, v, L) ?_ ⟨rfl, Nat.zero_le _, hp, by simp [encInts]⟩
  rintro ⟨i, n, p1, v1, W⟩ ⟨hn, hi, hp1, hW⟩ again
  dsimp only at hn hi hp1 hW again ⊢
  subst hn
  have hL : W.length ≤ 1000000000 := by have := hlen i hi; rw [hW, List.length_append]; omega
  have hgd : i < l.length → -9223372036854775808 ≤ l.getD i 0 ∧ l.getD i 0 ≤ 9223372036854775807 := fun h => by
    rw [List.getD_eq_getElem?_getD, List.getElem?_eq_getElem h]; exact hr _ (List.getElem_mem h)
  repeat' (first | (refine cl3 rfl (int_tr E b p1 v1 hp1 W (l.getD i 0) (hgd (by omega)).1 (hgd (by omega)).2 hL) ?_; rintro r Γ' ⟨v2, rfl⟩; refine n2 ?_) | refine mv ?_ | refine asn ?_ | refine jn ?_ | refine nl ?_ | refine ld rfl ?_ | refine sq ?_ | refine rg ?_ | refine lnb ?_ | refine lls rfl ?_ | refine ad ?_ | refine lss ?_ | refine kp ?_ | refine ct ?_ | refine cf ?_ | (refine cd (fun hc => ?_) (fun hc => ?_) <;> try (exfalso; omega)) | (refine cn (fun hc => ?_) (fun hc => ?_) <;> try (exfalso; omega)) | refine bl ?_ | refine ib ?_ | refine xt ?_ | refine la rfl ?_ | refine ixa rfl rfl ?_ | refine lde rfl ?_ | refine lae rfl ?_ | refine cc ?_ | refine af_ ?_ | refine aw ?_ | refine cb (fun hc => ?_) (fun hc => ?_))
  · have hi' : i < l.length := by omega
    exact ag (again (i + 1, (i : Int) + 1, .pointer (some ⟨b, 0, none⟩), v2, W ++ encInt (l.getD i 0)) ⟨by dsimp only; omega, hi', .inr rfl, by
      dsimp only
      rw [hW, List.take_succ_eq_append_getElem hi', encInts, encInts, List.flatMap_append, List.getD_eq_getElem?_getD, List.getElem?_eq_getElem hi']
      simp⟩ (by dsimp only; omega))
  · have hil : i = l.length := by omega
    rw [hil, List.take_length] at hW
    subst hW
    refine rte ?_
    exact ⟨_, ⟨_, _, hp1, rfl⟩, _, by repeat constructor⟩
/-- .. texts. -/
theorem eachText_tr (E : TypeId) [hE : BdT E] (b : Nat) (p v lv : Value) (hp : BP b p) (L : List UInt8) (l : List (List UInt8)) (hr : ∀ s ∈ l, s.length ≤ 1000000) (hl : L.length + 1000010 * l.length ≤ 1000000000) :
    Tr Tryz.prog 148 [lv, .func (.func 149) ⟨[.pointer (some ⟨b, 0, none⟩)]⟩ #[]] [sl 9 strE lv l, blk b (bcell E p v), sl 5 byteE v L]
      fun r Γ => ∃ p' v', BP b p' ∧ Γ = [sl 9 strE lv l, blk b (bcell E p' v'), sl 5 byteE v' (L ++ encTexts l)] := by
  have hlen : ∀ i, i ≤ l.length → (encTexts (l.take i)).length ≤ 1000010 * i := by
    intro i
    induction i with
    | zero => intro _; simp [encTexts]
    | succ i ih =>
      intro hi
      rw [List.take_succ_eq_append_getElem (by omega), encTexts, List.flatMap_append, List.length_append]
      have h1 := ih (by omega)
      have h2 := hr (l[i]'(by omega)) (List.getElem_mem _)
      have := (encInt_length (n := (l[i]'(by omega)).length) (by omega) (by omega)).2
      simp only [List.flatMap_cons, List.flatMap_nil, List.append_nil, encText, List.length_append]
      unfold encTexts at h1
      omega
  refine Tr_of_J Tryz.func148 follows rfl Tryz.ntmps148 (by simp) fun B F => ?_
  repeat' (first | refine mv ?_ | refine asn ?_ | refine jn ?_ | refine nl ?_ | refine ld rfl ?_ | refine sq ?_ | refine rg ?_ | refine lnb ?_ | refine lls rfl ?_ | refine ad ?_ | refine lss ?_ | refine kp ?_ | refine ct ?_ | refine cf ?_ | (refine cd (fun hc => ?_) (fun hc => ?_) <;> try (exfalso; omega)) | (refine cn (fun hc => ?_) (fun hc => ?_) <;> try (exfalso; omega)) | refine bl ?_ | refine ib ?_ | refine xt ?_ | refine la rfl ?_ | refine ixa rfl rfl ?_ | refine lde rfl ?_ | refine lae rfl ?_ | refine cc ?_ | refine af_ ?_ | refine aw ?_ | refine cb (fun hc => ?_) (fun hc => ?_))
  refine lp (α := Nat × Int × Value × Value × List UInt8) (fun y => [(1, .func (.func 149) ⟨[.pointer (some ⟨b, 0, none⟩)]⟩ #[]), (6, lv), (7, .int .i64 l.length), (8, .int .i64 y.2.1)]) (fun y => [sl 9 strE lv l, blk b (bcell E y.2.2.1 y.2.2.2.1), sl 5 byteE y.2.2.2.1 y.2.2.2.2]) (fun y => y.2.1 = (y.1 : Int) ∧ y.1 ≤ l.length ∧ BP b y.2.2.1 ∧ y.2.2.2.2 = L ++ encTexts (l.take y.1)) (fun y => l.length - y.1) (0, 0, p, v, L) ?_ ⟨rfl, Nat.zero_le _, hp, by simp [encTexts]⟩
  rintro ⟨i, n, p1, v1, W⟩ ⟨hn, hi, hp1, hW⟩ again
  dsimp only at hn hi hp1 hW again ⊢
  subst hn
  have hL : W.length ≤ 1000000000 := by have := hlen i hi; rw [hW, List.length_append]; omega
  have hgd : i < l.length → (l.getD i []).length ≤ 1000000 := fun h => by
    rw [List.getD_eq_getElem?_getD, List.getElem?_eq_getElem h]; exact hr _ (List.getElem_mem h)
  repeat' (first | (refine cl3 rfl (text_tr E b p1 v1 hp1 W (l.getD i []) (by have := hgd (by omega); omega) hL) ?_; rintro r Γ' ⟨v2, rfl⟩; refine n2 ?_) | refine mv ?_ | refine asn ?_ | refine jn ?_ | refine nl ?_ | refine ld rfl ?_ | refine sq ?_ | refine rg ?_ | refine lnb ?_ | refine lls rfl ?_ | refine ad ?_ | refine lss ?_ | refine kp ?_ | refine ct ?_ | refine cf ?_ | (refine cd (fun hc => ?_) (fun hc => ?_) <;> try (exfalso; omega)) | (refine cn (fun hc => ?_) (fun hc => ?_) <;> try (exfalso; omega)) | refine bl ?_ | refine ib ?_ | refine xt ?_ | refine la rfl ?_ | refine ixa rfl rfl ?_ | refine lde rfl ?_ | refine lae rfl ?_ | refine cc ?_ | refine af_ ?_ | refine aw ?_ | refine cb (fun hc => ?_) (fun hc => ?_))
  · have hi' : i < l.length := by omega
    exact ag (again (i + 1, (i : Int) + 1, .pointer (some ⟨b, 0, none⟩), v2, W ++ encText (l.getD i [])) ⟨by dsimp only; omega, hi', .inr rfl, by
      dsimp only
      rw [hW, List.take_succ_eq_append_getElem hi', encTexts, encTexts, List.flatMap_append, List.getD_eq_getElem?_getD, List.getElem?_eq_getElem hi']
      simp⟩ (by dsimp only; omega))
  · have hil : i = l.length := by omega
    rw [hil, List.take_length] at hW
    subst hW
    refine rte ?_
    exact ⟨_, ⟨_, _, hp1, rfl⟩, _, by repeat constructor⟩
theorem encInt_ne (n : Int) : encInt n ≠ [] := by simp [encInt, encNat]
theorem Int_tr (lv : Value) (l : List Int) (hne : l ≠ []) (hr : ∀ n ∈ l, -9223372036854775808 ≤ n ∧ n ≤ 9223372036854775807) (hl : l.length ≤ 100000) :
    Tr Tryz.prog 61 [lv] [sl 3 intE lv l] fun r Γ => r = vs (encInts l) ∧ Γ = [sl 3 intE lv l] := by
  have hne' : encInts l ≠ [] := by
    cases l with
    | nil => exact absurd rfl hne
    | cons n l => simp [encInts, encInt_ne]
  refine Tr_of_J Tryz.func61 follows rfl Tryz.ntmps61 (by simp) fun B F => ?_
  repeat' (first | (refine bx (fun b => ?_)) | refine mv ?_ | refine asn ?_ | refine jn ?_ | refine nl ?_ | refine nc ?_ | refine f0 ?_ | refine sq ?_ | refine rg ?_ | refine kp ?_ | refine ct ?_ | refine cf ?_ | (refine cd (fun hc => ?_) (fun hc => ?_) <;> try (exfalso; omega)) | (refine cn (fun hc => ?_) (fun hc => ?_) <;> try (exfalso; omega)) | refine bl ?_ | refine ib ?_ | refine xt ?_ | refine bx (fun b_ => ?_) | refine fe ?_ | refine fa ?_ | refine bld ?_ | refine mf2 ?_ | refine af_ ?_ | refine cb (fun hc => ?_) (fun hc => ?_))
  refine JR_sat (Γ' := sl 5 byteE (.slice none 0 0) [] :: _) ?_ fun w hS => sl_nil hS
  repeat' (first | (refine cl (eachInt_tr 155 b (.pointer none) (.slice none 0 0) lv (.inl rfl) [] l hr (by simp; omega)) ?_; rintro r Γ' ⟨p2, v2, hp2, rfl⟩; refine n3 ?_) | (refine cl (str_tr 155 b p2 v2 (encInts l) hne') ?_; rintro r Γ' ⟨rfl, rfl⟩; refine n1 ?_) | refine mv ?_ | refine asn ?_ | refine jn ?_ | refine nl ?_ | refine nc ?_ | refine f0 ?_ | refine sq ?_ | refine rg ?_ | refine kp ?_ | refine ct ?_ | refine cf ?_ | (refine cd (fun hc => ?_) (fun hc => ?_) <;> try (exfalso; omega)) | (refine cn (fun hc => ?_) (fun hc => ?_) <;> try (exfalso; omega)) | refine bl ?_ | refine ib ?_ | refine xt ?_ | refine bx (fun b_ => ?_) | refine fe ?_ | refine fa ?_ | refine bld ?_ | refine mf2 ?_ | refine af_ ?_ | refine cb (fun hc => ?_) (fun hc => ?_))
  refine rt ?_
  exact ⟨_, ⟨rfl, rfl⟩, _, by repeat constructor⟩
theorem Text_tr (lv : Value) (l : List (List UInt8)) (hne : l ≠ []) (hr : ∀ s ∈ l, s.length ≤ 1000000) (hl : l.length ≤ 100) :
    Tr Tryz.prog 98 [lv] [sl 9 strE lv l] fun r Γ => r = vs (encTexts l) ∧ Γ = [sl 9 strE lv l] := by
  have hne' : encTexts l ≠ [] := by
    cases l with
    | nil => exact absurd rfl hne
    | cons n l => simp [encTexts, encText, encInt_ne]
  refine Tr_of_J Tryz.func98 follows rfl Tryz.ntmps98 (by simp) fun B F => ?_
  repeat' (first | (refine bx (fun b => ?_)) | refine mv ?_ | refine asn ?_ | refine jn ?_ | refine nl ?_ | refine nc ?_ | refine f0 ?_ | refine sq ?_ | refine rg ?_ | refine kp ?_ | refine ct ?_ | refine cf ?_ | (refine cd (fun hc => ?_) (fun hc => ?_) <;> try (exfalso; omega)) | (refine cn (fun hc => ?_) (fun hc => ?_) <;> try (exfalso; omega)) | refine bl ?_ | refine ib ?_ | refine xt ?_ | refine bx (fun b_ => ?_) | refine fe ?_ | refine fa ?_ | refine bld ?_ | refine mf2 ?_ | refine af_ ?_ | refine cb (fun hc => ?_) (fun hc => ?_))
  refine JR_sat (Γ' := sl 5 byteE (.slice none 0 0) [] :: _) ?_ fun w hS => sl_nil hS
  repeat' (first | (refine cl (eachText_tr 155 b (.pointer none) (.slice none 0 0) lv (.inl rfl) [] l hr (by simp; omega)) ?_; rintro r Γ' ⟨p2, v2, hp2, rfl⟩; refine n3 ?_) | (refine cl (str_tr 155 b p2 v2 (encTexts l) hne') ?_; rintro r Γ' ⟨rfl, rfl⟩; refine n1 ?_) | refine mv ?_ | refine asn ?_ | refine jn ?_ | refine nl ?_ | refine nc ?_ | refine f0 ?_ | refine sq ?_ | refine rg ?_ | refine kp ?_ | refine ct ?_ | refine cf ?_ | (refine cd (fun hc => ?_) (fun hc => ?_) <;> try (exfalso; omega)) | (refine cn (fun hc => ?_) (fun hc => ?_) <;> try (exfalso; omega)) | refine bl ?_ | refine ib ?_ | refine xt ?_ | refine bx (fun b_ => ?_) | refine fe ?_ | refine fa ?_ | refine bld ?_ | refine mf2 ?_ | refine af_ ?_ | refine cb (fun hc => ?_) (fun hc => ?_))
  refine rt ?_
  exact ⟨_, ⟨rfl, rfl⟩, _, by repeat constructor⟩
end Go.Proofs.YtaeefjcbmkiiaaaGreatDoor
/- The codec's sums and frames, walked. -/
namespace Go.Proofs.YtaeefjcbmkiiaaaGreatDoor
open Go Sl
attribute [local irreducible] J JR JS RO CR Arr Sat Tr sat blk
set_option linter.unusedVariables false
set_option maxHeartbeats 400000
set_option maxRecDepth 4000

theorem and32 (a b : Nat) (ha : a < 4294967296) (hb : b < 4294967296) : IntKind.u32.wrap ((BitVec.ofInt IntKind.u32.bits (a : Int) &&& BitVec.ofInt IntKind.u32.bits (b : Int)).toNat : Int) = ((a &&& b : Nat) : Int) := by
  show IntKind.u32.wrap ((BitVec.ofInt 32 (a : Int) &&& BitVec.ofInt 32 (b : Int)).toNat : Int) = _
  rw [BitVec.ofInt_natCast, BitVec.ofInt_natCast, wrap_u32, BitVec.toNat_and, BitVec.toNat_ofNat, BitVec.toNat_ofNat, Nat.mod_eq_of_lt (a := a) ha, Nat.mod_eq_of_lt (a := b) hb, Nat.mod_eq_of_lt]
  exact Nat.lt_of_le_of_lt Nat.and_le_left ha
theorem xor32 (a b : Nat) (ha : a < 4294967296) (hb : b < 4294967296) : IntKind.u32.wrap ((BitVec.ofInt IntKind.u32.bits (a : Int) ^^^ BitVec.ofInt IntKind.u32.bits (b : Int)).toNat : Int) = ((a ^^^ b : Nat) : Int) := by
  show IntKind.u32.wrap ((BitVec.ofInt 32 (a : Int) ^^^ BitVec.ofInt 32 (b : Int)).toNat : Int) = _
  rw [BitVec.ofInt_natCast, BitVec.ofInt_natCast, wrap_u32, BitVec.toNat_xor, BitVec.toNat_ofNat, BitVec.toNat_ofNat, Nat.mod_eq_of_lt (a := a) ha, Nat.mod_eq_of_lt (a := b) hb, Nat.mod_eq_of_lt]
  exact xor_lt32 ha hb
theorem neg32 (c : Nat) : IntKind.u32.wrap (0 - ((c % 2 : Nat) : Int)) = ((if c % 2 = 1 then 4294967295 else 0 : Nat) : Int) := by
  unfold IntKind.wrap
  simp only [IntKind.bits, IntKind.signed]
  rcases Nat.mod_two_eq_zero_or_one c with h | h <;> rw [h] <;> decide
theorem poly32 (c : Nat) : (2197175160 &&& (if c % 2 = 1 then 4294967295 else 0) : Nat) = if c % 2 = 1 then 2197175160 else 0 := by
  split <;> rfl
theorem bit32 (c : Nat) : (c / 2 ^^^ (if c % 2 = 1 then 2197175160 else 0) : Nat) = crcBit c := by
  unfold crcBit; split <;> simp
/-- Some of the eight steps. -/
def crcIt : Nat → Nat → Nat
  | 0, c => c
  | k + 1, c => crcBit (crcIt k c)
theorem crcIt_lt {c : Nat} (h : c < 4294967296) : ∀ k, crcIt k c < 4294967296
  | 0 => h
  | k + 1 => crcBit_lt (crcIt_lt h k)
theorem sum_tr (c : Nat) (hc0 : c < 4294967296) (s : List UInt8) (hs : s.length ≤ 9223372036854775807) : Tr Tryz.prog 138 [.int .u32 c, vs s] [] fun r Γ => r = .int .u32 (crcSum c s) ∧ Γ = [] := by
  refine Tr_of_J Tryz.func138 follows rfl Tryz.ntmps138 (by simp) fun B F => ?_
  repeat' (first | refine mv ?_ | refine asn ?_ | refine jn ?_ | refine nl ?_ | refine sq ?_ | refine rg ?_ | refine lnb ?_ | refine lls rfl ?_ | refine ad ?_ | refine lss ?_ | refine kp ?_ | refine ct ?_ | refine cf ?_ | (refine cd (fun hc => ?_) (fun hc => ?_) <;> try (exfalso; omega)) | (refine cn (fun hc => ?_) (fun hc => ?_) <;> try (exfalso; omega)) | refine bl ?_ | refine ib ?_ | refine xt ?_ | refine cc ?_ | refine ixb ?_ | refine cv ?_ | refine af_ ?_ | refine aw ?_ | refine ng ?_ | refine cb (fun hc => ?_) (fun hc => ?_) | fail)
  refine lp (α := Nat × Int × Int) (fun y => [(0, .int .u32 y.2.1), (1, vs s), (7, .int .i64 s.length), (8, .int .i64 y.2.2)]) (fun y => []) (fun y => y.2.1 = (crcSum c (s.take y.1) : Nat) ∧ y.2.2 = (y.1 : Int) ∧ y.1 ≤ s.length) (fun y => s.length - y.1) (0, (c : Int), 0) ?_ ⟨by simp [crcSum], rfl, Nat.zero_le _⟩
  rintro ⟨i, q, n⟩ ⟨hq, hn, hi⟩ again
  dsimp only at hq hn hi again ⊢
  subst hq hn
  have hlt := crcSum_lt hc0 (s.take i)
  have hblt : (s.getD i 0).toNat < 4294967296 := by have := (s.getD i 0).toNat_lt; omega
  have hw : IntKind.u32.wrap ((s.getD (i : Int).toNat 0).toNat : Int) = (((s.getD i 0).toNat : Nat) : Int) := by rw [Int.toNat_natCast, wrap_u32, Nat.mod_eq_of_lt hblt]
  repeat' (first | refine cvr ?_ hw | (refine bxor ?_ (xor32 _ _ hlt hblt)) | refine mv ?_ | refine asn ?_ | refine jn ?_ | refine nl ?_ | refine sq ?_ | refine rg ?_ | refine lnb ?_ | refine lls rfl ?_ | refine ad ?_ | refine lss ?_ | refine kp ?_ | refine ct ?_ | refine cf ?_ | (refine cd (fun hc => ?_) (fun hc => ?_) <;> try (exfalso; omega)) | (refine cn (fun hc => ?_) (fun hc => ?_) <;> try (exfalso; omega)) | refine bl ?_ | refine ib ?_ | refine xt ?_ | refine cc ?_ | refine ixb ?_ | refine cv ?_ | refine af_ ?_ | refine aw ?_ | refine ng ?_ | refine cb (fun hc => ?_) (fun hc => ?_) | fail)
  · have hx := xor_lt32 hlt hblt
    have hi' : i < s.length := by omega
    have hstep : crcSum c (s.take (i + 1)) = crcByte (crcSum c (s.take i)) (s.getD i 0) := by
      rw [List.take_succ_eq_append_getElem hi', crcSum_append, List.getD_eq_getElem?_getD, List.getElem?_eq_getElem hi']; rfl
    have hcb : crcIt 8 (crcSum c (s.take i) ^^^ (s.getD i 0).toNat) = crcByte (crcSum c (s.take i)) (s.getD i 0) := rfl
    generalize hbb : crcByte (crcSum c (s.take i)) (s.getD i 0) = cb at hcb hstep
    generalize (s.getD i 0).toNat = bb at hx hcb ⊢
    refine lp (α := Nat × Int × Int) (fun y => [(0, .int .u32 y.2.1), (1, vs s), (7, .int .i64 s.length), (8, .int .i64 i), (17, .int .i64 y.2.2)]) (fun y => []) (fun y => y.2.1 = (crcIt y.1 (crcSum c (s.take i) ^^^ bb) : Nat) ∧ y.2.2 = (y.1 : Int) ∧ y.1 ≤ 8) (fun y => 8 - y.1) (0, ((crcSum c (s.take i) ^^^ bb : Nat) : Int), 0) ?_ ⟨rfl, rfl, Nat.zero_le _⟩
    rintro ⟨k, q, n⟩ ⟨hq, hn, hk⟩ again2
    dsimp only at hq hn hk again2 ⊢
    subst hq hn
    have hkt := crcIt_lt hx k
    generalize hz : crcIt k (crcSum c (s.take i) ^^^ bb) = z at hkt ⊢
    have hp1 : (if z % 2 = 1 then 4294967295 else 0 : Nat) < 4294967296 := by split <;> decide
    have hp2 : (if z % 2 = 1 then 2197175160 else 0 : Nat) < 4294967296 := by split <;> decide
    have hz2 : z / 2 ^ 1 < 4294967296 := by omega
    repeat' (first | refine shr ?_ (shr_nat .u32 z 1 (by decide)) | refine band ?_ ((and32 z 1 hkt (by decide)).trans (congrArg Nat.cast (Nat.and_one_is_mod z))) | refine ngr ?_ (neg32 z) | refine band ?_ ((and32 2197175160 _ (by decide) hp1).trans (congrArg Nat.cast (poly32 z))) | refine bxor ?_ ((xor32 _ _ hz2 hp2).trans (congrArg Nat.cast (bit32 z))) | refine mv ?_ | refine asn ?_ | refine jn ?_ | refine nl ?_ | refine sq ?_ | refine rg ?_ | refine lnb ?_ | refine lls rfl ?_ | refine ad ?_ | refine lss ?_ | refine kp ?_ | refine ct ?_ | refine cf ?_ | (refine cd (fun hc => ?_) (fun hc => ?_) <;> try (exfalso; omega)) | (refine cn (fun hc => ?_) (fun hc => ?_) <;> try (exfalso; omega)) | refine bl ?_ | refine ib ?_ | refine xt ?_ | refine cc ?_ | refine ixb ?_ | refine cv ?_ | refine af_ ?_ | refine aw ?_ | refine ng ?_ | refine cb (fun hc => ?_) (fun hc => ?_) | fail)
    · exact ag (again2 (k + 1, ((crcBit z : Nat) : Int), (k : Int) + 1) ⟨by dsimp only; rw [crcIt, hz], by dsimp only; omega, by dsimp only; omega⟩ (by dsimp only; omega))
    · have hk8 : k = 8 := by omega
      subst hk8
      have hzz : z = crcSum c (s.take (i + 1)) := by rw [hstep, ← hz]; exact hcb
      exact ag (again (i + 1, (z : Int), (i : Int) + 1) ⟨by dsimp only; rw [hzz], by dsimp only; omega, by dsimp only; omega⟩ (by dsimp only; omega))
  · have hil : i = s.length := by omega
    rw [hil, List.take_length]
    refine rt ?_
    exact ⟨_, ⟨rfl, rfl⟩, _, by repeat constructor⟩
theorem xor_tr4 (v : Nat) (hv : v < 4294967296) : IntKind.u32.wrap ((BitVec.ofInt IntKind.u32.bits (if IntKind.u32.signed then -1 else IntKind.u32.max) ^^^ BitVec.ofInt IntKind.u32.bits (v : Int)).toNat : Int) = ((4294967295 - v : Nat) : Int) := by
  show IntKind.u32.wrap ((BitVec.ofInt 32 ((4294967295 : Nat) : Int) ^^^ BitVec.ofInt 32 (v : Int)).toNat : Int) = _
  rw [BitVec.ofInt_natCast, BitVec.ofInt_natCast, wrap_u32, show BitVec.ofNat 32 4294967295 = BitVec.allOnes 32 from rfl, BitVec.allOnes_xor, BitVec.toNat_not, BitVec.toNat_ofNat]
  omega
theorem four_tr (v : Nat) (hv : v < 4294967296) : Tr Tryz.prog 137 [.int .u32 v] [] fun r Γ => r = vs (four v) ∧ Γ = [] := by
  have h8 : ∀ n : Nat, IntKind.u8.wrap ((n : Nat) : Int) = ((UInt8.ofNat (n % 256)).toNat : Int) := fun n => by rw [wrap_u8, ofNat_mod, Nat.mod_mod]
  refine Tr_of_J Tryz.func137 follows rfl Tryz.ntmps137 (by simp) fun B F => ?_
  repeat' (first | refine shr ?_ (shr_nat .u32 v 24 (by decide)) | refine shr ?_ (shr_nat .u32 v 16 (by decide)) | refine shr ?_ (shr_nat .u32 v 8 (by decide)) | refine cvr ?_ (h8 _) | refine bsl (e := byteE) (X := four v) (fun v2 => ?_) (.cona rfl rfl (.cona rfl rfl (.cona rfl rfl (.cona rfl rfl .nil)))) | refine bst rfl ?_ | refine mv ?_ | refine asn ?_ | refine jn ?_ | refine nl ?_ | refine sq ?_ | refine rg ?_ | refine kp ?_ | refine ct ?_ | refine cf ?_ | (refine cd (fun hc => ?_) (fun hc => ?_) <;> try (exfalso; omega)) | (refine cn (fun hc => ?_) (fun hc => ?_) <;> try (exfalso; omega)) | refine bl ?_ | refine ib ?_ | refine xt ?_ | refine cv ?_ | refine af_ ?_ | refine cb (fun hc => ?_) (fun hc => ?_) | fail)
  refine rt ?_
  exact ⟨_, ⟨rfl, rfl⟩, _, by repeat constructor⟩
theorem four_len (n : Nat) : (four n).length = 4 := rfl
section
attribute [local irreducible] crcSum four
theorem Frame_tr (s : List UInt8) (hs : s.length ≤ 100000000) : Tr Tryz.prog 85 [vs s] [] fun r Γ => (r = if s.length ≤ 65536 then .tuple #[vs (frame s), .int .i64 0] else .tuple #[vs [], .int .i64 10]) ∧ Γ = [] := by
  have hw : IntKind.u32.wrap ((s.length : Nat) : Int) = ((s.length : Nat) : Int) := by rw [wrap_u32, Nat.mod_eq_of_lt]; omega
  have h1 : crcSum 4294967295 (four s.length) < 4294967296 := crcSum_lt (by decide) _
  have h2 : crcSum (crcSum 4294967295 (four s.length)) s < 4294967296 := crcSum_lt h1 _
  have hc4 : 4294967295 - crcSum (crcSum 4294967295 (four s.length)) s < 4294967296 := by omega
  have hf : ∀ n, (four n).length = 4 := four_len
  refine Tr_of_J Tryz.func85 follows rfl Tryz.ntmps85 (by simp) fun B F => ?_
  repeat' (first | refine cvr ?_ hw | refine mv ?_ | refine asn ?_ | refine jn ?_ | refine nl ?_ | refine sq ?_ | refine rg ?_ | refine lnb ?_ | refine lls rfl ?_ | refine ad ?_ | refine gtr ?_ | refine kp ?_ | refine ct ?_ | refine cf ?_ | (refine cd (fun hc => ?_) (fun hc => ?_) <;> try (exfalso; omega)) | (refine cn (fun hc => ?_) (fun hc => ?_) <;> try (exfalso; omega)) | refine bl ?_ | refine ib ?_ | refine xt ?_ | refine cc ?_ | refine cv ?_ | refine af_ ?_ | refine aw ?_ | refine cb (fun hc => ?_) (fun hc => ?_) | fail)
  · refine rt ?_
    refine ⟨_, ⟨?_, rfl⟩, _, by repeat constructor⟩
    rw [if_neg (by omega)]; rfl
  refine cl (four_tr s.length (by omega)) ?_; rintro r Γ' ⟨rfl, rfl⟩; refine n0 ?_
  repeat' (first | refine mv ?_ | refine asn ?_ | refine jn ?_ | refine nl ?_ | refine sq ?_ | refine rg ?_ | refine lnb ?_ | refine lls rfl ?_ | refine ad ?_ | refine gtr ?_ | refine kp ?_ | refine ct ?_ | refine cf ?_ | (refine cd (fun hc => ?_) (fun hc => ?_) <;> try (exfalso; omega)) | (refine cn (fun hc => ?_) (fun hc => ?_) <;> try (exfalso; omega)) | refine bl ?_ | refine ib ?_ | refine xt ?_ | refine cc ?_ | refine cv ?_ | refine af_ ?_ | refine aw ?_ | refine cb (fun hc => ?_) (fun hc => ?_) | fail)
  refine cl (sum_tr 4294967295 (by decide) (four s.length) (by rw [hf]; decide)) ?_; rintro r Γ' ⟨rfl, rfl⟩; refine n0 ?_
  repeat' (first | refine mv ?_ | refine asn ?_ | refine jn ?_ | refine nl ?_ | refine sq ?_ | refine rg ?_ | refine lnb ?_ | refine lls rfl ?_ | refine ad ?_ | refine gtr ?_ | refine kp ?_ | refine ct ?_ | refine cf ?_ | (refine cd (fun hc => ?_) (fun hc => ?_) <;> try (exfalso; omega)) | (refine cn (fun hc => ?_) (fun hc => ?_) <;> try (exfalso; omega)) | refine bl ?_ | refine ib ?_ | refine xt ?_ | refine cc ?_ | refine cv ?_ | refine af_ ?_ | refine aw ?_ | refine cb (fun hc => ?_) (fun hc => ?_) | fail)
  refine cl (sum_tr _ h1 s (by omega)) ?_; rintro r Γ' ⟨rfl, rfl⟩; refine n0 ?_
  repeat' (first | refine cpl ?_ (xor_tr4 _ h2) | refine mv ?_ | refine asn ?_ | refine jn ?_ | refine nl ?_ | refine sq ?_ | refine rg ?_ | refine lnb ?_ | refine lls rfl ?_ | refine ad ?_ | refine gtr ?_ | refine kp ?_ | refine ct ?_ | refine cf ?_ | (refine cd (fun hc => ?_) (fun hc => ?_) <;> try (exfalso; omega)) | (refine cn (fun hc => ?_) (fun hc => ?_) <;> try (exfalso; omega)) | refine bl ?_ | refine ib ?_ | refine xt ?_ | refine cc ?_ | refine cv ?_ | refine af_ ?_ | refine aw ?_ | refine cb (fun hc => ?_) (fun hc => ?_) | fail)
  refine cl (four_tr _ hc4) ?_; rintro r Γ' ⟨rfl, rfl⟩; refine n0 ?_
  repeat' (first | refine cc ?_ rfl rfl (by simp only [hf, List.length_append]; omega) | refine mv ?_ | refine asn ?_ | refine jn ?_ | refine nl ?_ | refine sq ?_ | refine rg ?_ | refine lnb ?_ | refine lls rfl ?_ | refine ad ?_ | refine gtr ?_ | refine kp ?_ | refine ct ?_ | refine cf ?_ | (refine cd (fun hc => ?_) (fun hc => ?_) <;> try (exfalso; omega)) | (refine cn (fun hc => ?_) (fun hc => ?_) <;> try (exfalso; omega)) | refine bl ?_ | refine ib ?_ | refine xt ?_ | refine cc ?_ | refine cv ?_ | refine af_ ?_ | refine aw ?_ | refine cb (fun hc => ?_) (fun hc => ?_) | fail)
  refine rt ?_
  refine ⟨_, ⟨?_, rfl⟩, _, by repeat constructor⟩
  rw [if_pos (by omega)]
  show Value.tuple #[vs (four s.length ++ four (4294967295 - crcSum (crcSum 4294967295 (four s.length)) s) ++ s), .int .i64 0] = _
  rw [← crcSum_append]; rfl
end
end Go.Proofs.YtaeefjcbmkiiaaaGreatDoor
/- The log on a disk: its entries, its segments, what is laid down: plain. -/
namespace Go.Proofs.YtaeefjcbmkiiaaaGreatDoor
open Go Sl
set_option linter.unusedVariables false

structure Ent where
  index : Int
  term : Int
  kind : Int
  data : List UInt8
  deriving DecidableEq
structure Hrd where
  term : Int
  vote : Int
  deriving DecidableEq
structure Seg where
  number : Int
  size : Int
  top : Int
  deriving DecidableEq
structure LogS where
  hard : Hrd
  ents : List Ent
  segs : List Seg
def I64 (n : Int) : Prop := -9223372036854775808 ≤ n ∧ n ≤ 9223372036854775807
instance (n : Int) : Decidable (I64 n) := by unfold I64; infer_instance
def Ent.right (e : Ent) : Bool := decide (0 < e.index) && decide (0 ≤ e.term) && decide (1 ≤ e.kind) && decide (e.kind ≤ 3)
structure Ent.In (e : Ent) : Prop where
  i : I64 e.index
  t : I64 e.term
  k : I64 e.kind
structure Hrd.In (h : Hrd) : Prop where
  t : I64 h.term
  v : I64 h.vote
def hardText (h : Hrd) : List UInt8 := encInts [1, h.term, h.vote]
def entText (e : Ent) : List UInt8 := encInts [2, e.index, e.term, e.kind] ++ encTexts [e.data]
def resetText : List UInt8 := encInts [3]
def segName (n : Nat) : Nm := 119 :: Lib.decDigits n
abbrev Ent.none : Ent := ⟨0, 0, 0, []⟩
abbrev Seg.none : Seg := ⟨0, 0, 0⟩
/-- The last one. -/
def lastE (l : List Ent) : Ent := l.getD ((l.length : Int) - 1).toNat .none
def headE (l : List Ent) : Ent := l.getD (0 : Int).toNat .none
def lastS (l : List Seg) : Seg := l.getD ((l.length : Int) - 1).toNat .none
/-- An entry put where it belongs. -/
def putE (l : List Ent) (e : Ent) : List Ent :=
  if (l.length : Int) = 0 ∨ IntKind.i64.wrap ((lastE l).index + 1) < e.index ∨ e.index < (headE l).index then [e] else l.take (e.index - (headE l).index).toNat ++ [e]
def setLast (s : List Seg) (q : Seg) : List Seg := s.set ((s.length : Int) - 1).toNat q
def setTop (s : List Seg) (i : Int) : List Seg := setLast s { lastS s with top := max (lastS s).top i }
def LogS.put (W : LogS) (e : Ent) : LogS := { W with ents := putE W.ents e, segs := setTop W.segs e.index }
/-- Entries rise by one; none is beyond what a number holds. -/
structure Rise (l : List Ent) : Prop where
  up : ∀ i, i < l.length → (l.getD i .none).index = (l.getD 0 .none).index + i
  in_ : ∀ e ∈ l, e.In
  pos : ∀ e ∈ l, 0 < e.index
end Go.Proofs.YtaeefjcbmkiiaaaGreatDoor
/- The disk: how it lies in memory; the turn of its fuse; a file found. -/
namespace Go.Proofs.YtaeefjcbmkiiaaaGreatDoor
open Go Sl
attribute [local irreducible] J JR JS RO CR Arr Sat Tr sat blk
set_option linter.unusedVariables false
set_option maxHeartbeats 400000

abbrev fileE (f : FileS) : Value := .agg ⟨[vs f.bytes, .int .i64 f.synced]⟩
def fmap : MapT (List UInt8) FileS where
  key := vs
  val := fileE
  fits := fun D => match D with | .string => true | _ => false
  same := fun D a b h => by
    cases D <;> simp at h
    simp only [Instr.sameNow]
    rw [beq_toListBytes, ByteArray.toList_mk, ByteArray.toList_mk]
    by_cases h : a = b <;> simp [h]
  plain := fun D h => by cases D <;> simp at h <;> rfl
  bits := fun n a => by simp [Instr.sameBits, beq_toListBytes]
instance : KFit Tryz.prog 9 fmap := ⟨.string, by kernel_rfl, rfl⟩
/-- A disk's own block; its files lie at m. -/
abbrev dcell (m : Nat) (D : DiskS) : Obj := .cells ⟨[.map (some m), .int .i64 D.most, .int .i64 D.fuse, .bool D.dead]⟩ 86 (0, 0)

theorem turn_tr (d m : Nat) (D : DiskS) (h : D.Ok) :
    Tr Tryz.prog 141 [.pointer (some ⟨d, 0, none⟩)] [blk d (dcell m D)]
      fun v Γ => v = .int .i64 D.turn.1 ∧ Γ = [blk d (dcell m D.turn.2)] := by
  have := h.fz1
  have := h.fz2
  refine Tr_of_J Tryz.func141 follows rfl Tryz.ntmps141 (by simp) fun B F => ?_
  repeat' (first | refine mv ?_ | refine asn ?_ | refine jn ?_ | refine nl ?_ | refine ld rfl ?_ | refine nc ?_ | refine f0 ?_ | refine sq ?_ | refine rg ?_ | refine sb ?_ | refine eql ?_ | refine kp ?_ | refine ct ?_ | refine cf ?_ | (refine cd (fun hc => ?_) (fun hc => ?_) <;> try (exfalso; omega)) | (refine cn (fun hc => ?_) (fun hc => ?_) <;> try (exfalso; omega)) | refine bl ?_ | refine ib ?_ | refine xt ?_ | refine sr rfl ?_ | refine la rfl ?_ | refine fe ?_ | refine lde rfl ?_ | refine lae rfl ?_ | refine fa ?_ | refine mx ?_ | refine af_ ?_ | refine sw ?_ | refine cb (fun hc => ?_) (fun hc => ?_))
  all_goals refine rt ?_
  · rw [show D.turn = (7, { D with dead := true }) by simp [DiskS.turn, hc]]; exact ⟨_, ⟨rfl, rfl⟩, _, by repeat constructor⟩
  · rw [show D.turn = (0, { D with fuse := max (D.fuse - 1) (-1) }) by simp [DiskS.turn, hc]]; exact ⟨_, ⟨rfl, rfl⟩, _, by repeat constructor⟩

theorem find_tr (d m : Nat) (D : DiskS) (n : Nm) :
    Tr Tryz.prog 78 [.pointer (some ⟨d, 0, none⟩), vs n] [blk d (dcell m D), mp fmap m D.files]
      fun v Γ => v = .tuple #[fileE (D.find n).1, .int .i64 (D.find n).2] ∧ Γ = [blk d (dcell m D), mp fmap m D.files] := by
  refine Tr_of_J Tryz.func78 follows rfl Tryz.ntmps78 (by simp) fun B F => ?_
  repeat' (first | refine lko (M := fmap) (q := n) rfl rfl (fun f hf => ?_) (fun hf => ?_) | refine mv ?_ | refine asn ?_ | refine jn ?_ | refine nl ?_ | refine ld rfl ?_ | refine nc ?_ | refine f0 ?_ | refine xt2 ?_ | refine sq ?_ | refine rg ?_ | refine nt ?_ | refine kp ?_ | refine ct ?_ | refine cf ?_ | (refine cd (fun hc => ?_) (fun hc => ?_) <;> try (exfalso; omega)) | (refine cn (fun hc => ?_) (fun hc => ?_) <;> try (exfalso; omega)) | refine bl ?_ | refine ib ?_ | refine xt ?_ | refine al (fun b_ => ?_) | refine sr rfl ?_ | refine la rfl ?_ | refine fe ?_ | refine lde rfl ?_ | refine lae rfl ?_ | refine fa ?_ | refine bld ?_ | refine af_ ?_ | refine cb (fun hc => ?_) (fun hc => ?_))
  all_goals refine rt ?_ rfl (.agg rfl (by repeat constructor) (by repeat constructor))
  · have e : D.find n = (.none, 7) := by simp [DiskS.find, hc]
    exact ⟨_, ⟨by rw [e]; rfl, rfl⟩, _, by repeat constructor⟩
  · have e : D.find n = (f, 0) := by simp [DiskS.find, hc, hf]
    exact ⟨_, ⟨by rw [e]; rfl, rfl⟩, _, by repeat constructor⟩
  · have e : D.find n = (.none, 4) := by simp [DiskS.find, hc, hf]
    exact ⟨_, ⟨by rw [e]; rfl, rfl⟩, _, by repeat constructor⟩

theorem size_tr (d m : Nat) (D : DiskS) (h : D.Ok) :
    Tr Tryz.prog 30 [.pointer (some ⟨d, 0, none⟩)] [blk d (dcell m D), mp fmap m D.files]
      fun v Γ => v = .int .i64 (DiskS.total D.files) ∧ Γ = [blk d (dcell m D), mp fmap m D.files] := by
  refine Tr_of_J Tryz.func30 follows rfl Tryz.ntmps30 (by simp) fun B F => ?_
  repeat' (first | refine rgm rfl (fun it => ?_) | refine mv ?_ | refine asn ?_ | refine jn ?_ | refine nl ?_ | refine ld rfl ?_ | refine nc ?_ | refine f0 ?_ | refine xt2 ?_ | refine sq ?_ | refine rg ?_ | refine lnb ?_ | refine lls rfl ?_ | refine ad ?_ | refine kp ?_ | refine ct ?_ | refine cf ?_ | (refine cd (fun hc => ?_) (fun hc => ?_) <;> try (exfalso; omega)) | (refine cn (fun hc => ?_) (fun hc => ?_) <;> try (exfalso; omega)) | refine bl ?_ | refine ib ?_ | refine xt ?_ | refine al (fun b_ => ?_) | refine sr rfl ?_ | refine la rfl ?_ | refine fe ?_ | refine lde rfl ?_ | refine lae rfl ?_ | refine fa ?_ | refine cc ?_ | refine af_ ?_ | refine aw ?_ | refine cb (fun hc => ?_) (fun hc => ?_))
  refine lp (α := Int × List (Nm × FileS) × Option (Nm × FileS)) (fun x => [(3, .int .i64 x.1), (10, .pointer (some ⟨it, 0, none⟩))]) (fun x => [mpi fmap m it D.files x.2.1 x.2.2, blk d (dcell m D)]) (fun x => 0 ≤ x.1 ∧ x.1 + DiskS.total x.2.1 = DiskS.total D.files) (fun x => x.2.1.length) (0, D.files, none) ?_ ⟨Int.le_refl 0, by simp⟩
  rintro ⟨n, left, cur⟩ ⟨hn, ht⟩ again
  dsimp only at hn ht again ⊢
  have := h.sz
  have := h.m1
  repeat' (first | refine nxt rfl (fun hl => ?_) (fun p l1 l2 hl => have hq : DiskS.total left = p.2.bytes.length + DiskS.total (l1 ++ l2) := (by rw [hl, total_append, total_cons, total_append]; omega); ?_) | refine ent rfl ?_ | refine mv ?_ | refine asn ?_ | refine jn ?_ | refine nl ?_ | refine ld rfl ?_ | refine nc ?_ | refine f0 ?_ | refine xt2 ?_ | refine sq ?_ | refine rg ?_ | refine lnb ?_ | refine lls rfl ?_ | refine ad ?_ | refine kp ?_ | refine ct ?_ | refine cf ?_ | (refine cd (fun hc => ?_) (fun hc => ?_) <;> try (exfalso; omega)) | (refine cn (fun hc => ?_) (fun hc => ?_) <;> try (exfalso; omega)) | refine bl ?_ | refine ib ?_ | refine xt ?_ | refine al (fun b_ => ?_) | refine sr rfl ?_ | refine la rfl ?_ | refine fe ?_ | refine lde rfl ?_ | refine lae rfl ?_ | refine fa ?_ | refine cc ?_ | refine af_ ?_ | refine aw ?_ | refine cb (fun hc => ?_) (fun hc => ?_))
  · subst hl
    have e : n = DiskS.total D.files := by simpa [DiskS.total] using ht
    refine J_sat ?_ fun w hS => mpi_done hS
    refine rt ?_
    exact ⟨_, ⟨by rw [← e]; rfl, rfl⟩, _, by repeat constructor⟩
  · exact ag (again (n + p.2.bytes.length, l1 ++ l2, some p) ⟨by dsimp only; omega, by dsimp only; omega⟩ (by subst hl; simp))

theorem dead_tr (d m : Nat) (D : DiskS) : Tr Tryz.prog 14 [.pointer (some ⟨d, 0, none⟩)] [blk d (dcell m D)] fun v Γ => v = .bool D.dead ∧ Γ = [blk d (dcell m D)] := by
  refine Tr_of_J Tryz.func14 follows rfl Tryz.ntmps14 (by simp) fun B F => ?_
  repeat' (first | refine mv ?_ | refine asn ?_ | refine jn ?_ | refine nl ?_ | refine ld rfl ?_ | refine nc ?_ | refine f0 ?_ | refine sq ?_ | refine rg ?_ | refine kp ?_ | refine ct ?_ | refine cf ?_ | (refine cd (fun hc => ?_) (fun hc => ?_) <;> try (exfalso; omega)) | (refine cn (fun hc => ?_) (fun hc => ?_) <;> try (exfalso; omega)) | refine bl ?_ | refine ib ?_ | refine xt ?_ | refine la rfl ?_ | refine fe ?_ | refine lde rfl ?_ | refine lae rfl ?_ | refine fa ?_ | refine af_ ?_ | refine cb (fun hc => ?_) (fun hc => ?_))
  refine rt ?_
  exact ⟨_, ⟨rfl, rfl⟩, _, by repeat constructor⟩
theorem fuse_tr (d m : Nat) (D : DiskS) (n : Int) : Tr Tryz.prog 22 [.pointer (some ⟨d, 0, none⟩), .int .i64 n] [blk d (dcell m D)] fun v Γ => Γ = [blk d (dcell m { D with fuse := max n (-1) })] := by
  refine Tr_of_J Tryz.func22 follows rfl Tryz.ntmps22 (by simp) fun B F => ?_
  repeat' (first | refine mv ?_ | refine jn ?_ | refine nl ?_ | refine nc ?_ | refine f0 ?_ | refine sq ?_ | refine rg ?_ | refine kp ?_ | refine ct ?_ | refine cf ?_ | (refine cd (fun hc => ?_) (fun hc => ?_) <;> try (exfalso; omega)) | (refine cn (fun hc => ?_) (fun hc => ?_) <;> try (exfalso; omega)) | refine bl ?_ | refine ib ?_ | refine xt ?_ | refine sr rfl ?_ | refine fe ?_ | refine fa ?_ | refine mx ?_ | refine cb (fun hc => ?_) (fun hc => ?_))
  refine rte ?_
  exact ⟨_, rfl, _, by repeat constructor⟩
theorem read_tr (d m : Nat) (D : DiskS) (n : Nm) : Tr Tryz.prog 46 [.pointer (some ⟨d, 0, none⟩), vs n] [blk d (dcell m D), mp fmap m D.files]
    fun v Γ => v = .tuple #[vs (D.find n).1.bytes, .int .i64 (D.find n).2] ∧ Γ = [blk d (dcell m D), mp fmap m D.files] := by
  refine Tr_of_J Tryz.func46 follows rfl Tryz.ntmps46 (by simp) fun B F => ?_
  repeat' (first | (refine cl (find_tr d m D n) ?_; rintro v Γ' ⟨rfl, rfl⟩) | refine mv ?_ | refine asn ?_ | refine jn ?_ | refine nl ?_ | refine ld rfl ?_ | refine f0 ?_ | refine xt2 ?_ | refine sq ?_ | refine rg ?_ | refine neq ?_ | refine kp ?_ | refine ct ?_ | refine cf ?_ | (refine cd (fun hc => ?_) (fun hc => ?_) <;> try (exfalso; omega)) | (refine cn (fun hc => ?_) (fun hc => ?_) <;> try (exfalso; omega)) | refine bl ?_ | refine ib ?_ | refine xt ?_ | refine al (fun b_ => ?_) | refine sr rfl ?_ | refine la rfl ?_ | refine fe ?_ | refine lde rfl ?_ | refine lae rfl ?_ | refine fa ?_ | refine sne ?_ | refine af_ ?_ | refine ane ?_ | refine cb (fun hc => ?_) (fun hc => ?_))
  all_goals refine rt ?_
  · have e : (D.find n).1.bytes = [] := by
      unfold DiskS.find at hc ⊢
      split
      · rfl
      · rename_i hd
        rw [if_neg hd] at hc
        cases ha : assoc D.files n with
        | none => rfl
        | some f => rw [ha] at hc; exact absurd rfl hc
    exact ⟨_, ⟨by rw [e]; rfl, rfl⟩, _, by repeat constructor⟩
  · exact ⟨_, ⟨by rw [hc]; rfl, rfl⟩, _, by repeat constructor⟩
end Go.Proofs.YtaeefjcbmkiiaaaGreatDoor
/- The disk: names; what is done with a file; append, sync, truncate, delete. -/
namespace Go.Proofs.YtaeefjcbmkiiaaaGreatDoor
open Go Sl
attribute [local irreducible] J JR JS RO CR Arr Sat Tr sat blk
set_option linter.unusedVariables false
set_option maxHeartbeats 400000
set_option maxRecDepth 4000

theorem name_tr (s : Nm) (hl : s.length ≤ 9223372036854775807) : Tr Tryz.prog 140 [vs s] [] fun v Γ => v = .bool (okName s) ∧ Γ = [] := by
  refine Tr_of_J Tryz.func140 follows rfl Tryz.ntmps140 (by simp) fun B F => ?_
  repeat' (first | (refine cl (trim_tr s cset (by decide) (by decide) hl) ?_; rintro v Γ' ⟨⟨r, rfl, hr⟩, rfl⟩; refine n0 ?_) | refine mv ?_ | refine asn ?_ | refine jn ?_ | refine nl ?_ | refine sq ?_ | refine rg ?_ | refine lnb ?_ | refine lls rfl ?_ | refine leq ?_ | refine p1 ?_ | refine p0 ?_ | refine sk2 ?_ | refine kp ?_ | refine ct ?_ | refine cf ?_ | (refine cd (fun hc => ?_) (fun hc => ?_) <;> try (exfalso; omega)) | (refine cn (fun hc => ?_) (fun hc => ?_) <;> try (exfalso; omega)) | refine bl ?_ | refine ib ?_ | refine xt ?_ | refine seq ?_ | refine sne ?_ | refine af_ ?_ | (refine gd (fun hc => ?_) (fun hc => ?_) <;> try (exfalso; omega)) | (refine gn (fun hc => ?_) (fun hc => ?_) <;> try (exfalso; omega)) | refine cb (fun hc => ?_) (fun hc => ?_) | refine gs (fun hc => ?_) (fun hc => ?_))
  all_goals refine rt ?_
  · refine ⟨_, ⟨?_, rfl⟩, _, by repeat constructor⟩
    show Value.bool _ = _
    congr 1
    have e : (s.all fun b => cset.contains b) = s.all alnum := rfl
    rw [e] at hr
    simp only [okName, ne_eq, show ¬ s = [] from ‹_›, not_false_eq_true, true_and, show s.length ≤ 24 by omega, decide_true, Bool.true_and]
    rw [Bool.eq_iff_iff, decide_eq_true_iff, hr]
  · refine ⟨_, ⟨?_, rfl⟩, _, by repeat constructor⟩
    have e : okName s = false := by simp [okName]; intro _ h; omega
    rw [e]; rfl
  · refine ⟨_, ⟨?_, rfl⟩, _, by repeat constructor⟩
    have e : okName s = false := by simp [okName, hc]
    rw [e]; rfl
theorem append_tr (d m : Nat) (D : DiskS) (h : D.Ok) (n : Nm) (data : List UInt8) (hn : n.length ≤ 100000) (hd : data.length ≤ 100000000) :
    Tr Tryz.prog 87 [.pointer (some ⟨d, 0, none⟩), vs n, vs data] [blk d (dcell m D), mp fmap m D.files]
      fun v Γ => v = .int .i64 (D.append n data).1 ∧ Γ = [blk d (dcell m (D.append n data).2), mp fmap m (D.append n data).2.files] := by
  have h1 := h.sz
  have h2 := h.m1
  have h3 := (h.find n).1
  have hN : n.length ≤ 9223372036854775807 := by omega
  refine Tr_of_J Tryz.func87 follows rfl Tryz.ntmps87 (by simp) fun B F => ?_
  repeat' (first | (refine cl (find_tr d m D n) ?_; rintro v Γ' ⟨rfl, rfl⟩; refine n2 ?_) | (refine cl (name_tr n hN) ?_; rintro v Γ' ⟨rfl, rfl⟩; refine n0 ?_) | (refine cl (size_tr d m D h) ?_; rintro v Γ' ⟨rfl, rfl⟩; refine n2 ?_) | (refine cl (turn_tr d m D h) ?_; rintro v Γ' ⟨rfl, rfl⟩; refine n1 ?_) | refine lnm rfl ?_ | refine mpu (q := n) (xv := ⟨(D.find n).1.bytes ++ data, (D.find n).1.synced⟩) rfl rfl rfl rfl ?_ | refine mv ?_ | refine asn ?_ | refine jn ?_ | refine nl ?_ | refine ld rfl ?_ | refine nc ?_ | refine f0 ?_ | refine xt2 ?_ | refine sq ?_ | refine rg ?_ | refine lnb ?_ | refine lls rfl ?_ | refine ad ?_ | refine eql ?_ | refine neq ?_ | refine gtr ?_ | refine nt ?_ | refine p1 ?_ | refine p0 ?_ | refine sk2 ?_ | refine kp ?_ | refine ct ?_ | refine cf ?_ | (refine cd (fun hc => ?_) (fun hc => ?_) <;> try (exfalso; omega)) | (refine cn (fun hc => ?_) (fun hc => ?_) <;> try (exfalso; omega)) | refine bl ?_ | refine ib ?_ | refine xt ?_ | refine al (fun b_ => ?_) | refine sr rfl ?_ | refine la rfl ?_ | refine fe ?_ | refine lde rfl ?_ | refine lae rfl ?_ | refine fa ?_ | refine seq ?_ | refine sne ?_ | refine cc ?_ | refine af_ ?_ | (refine gd (fun hc => ?_) (fun hc => ?_) <;> try (exfalso; omega)) | (refine gn (fun hc => ?_) (fun hc => ?_) <;> try (exfalso; omega)) | refine aw ?_ | refine aeq ?_ | refine ane ?_ | refine cb (fun hc => ?_) (fun hc => ?_) | refine gs (fun hc => ?_) (fun hc => ?_) | refine J_draw (id := 8) [(0, true, []), (2, true, []), (3, true, []), (5, true, []), (6, true, []), (7, true, []), (8, true, []), (1, false, [2, 3, 5, 6, 7, 8]), (4, true, []), (9, true, []), (10, true, [])] (by kernel_rfl) ?_ | refine J_draw (id := 14) [(0, true, []), (1, true, []), (2, true, []), (3, true, []), (4, true, []), (5, true, []), (6, false, [])] (by kernel_rfl) ?_ | refine JS_cons rfl rfl (RO_move rfl) ?_ | refine JS_cons rfl rfl (RO_nilCheck rfl) ?_ | refine JS_cons rfl rfl (RO_fieldAddr0 rfl) ?_ | refine JS_cons rfl rfl (RO_load rfl (by rfl)) ?_ | refine JS_off rfl ?_ | refine JS_cons rfl rfl (RO_extract rfl rfl) ?_ | refine JS_cons rfl rfl (RO_not rfl) ?_ | refine JS_cons rfl rfl (RO_fieldAddr rfl) ?_ | refine JS_cons rfl rfl (RO_lnb rfl) ?_ | refine JS_cons rfl rfl (RO_lls rfl) ?_ | refine JS_cons rfl rfl (RO_add_in rfl rfl (by omega)) ?_ | refine JS_cons rfl rfl (RO_fe rfl) ?_ | refine JS_cons rfl rfl (RO_lde rfl (by omega) rfl) ?_ | refine JS_offu rfl ?_ | refine JS_cons rfl rfl (RO_cc rfl rfl (by omega)) ?_ | refine JS_cons rfl rfl (RO_lae rfl (by omega) (by repeat constructor)) ?_ | refine JS_cons rfl rfl (RO_loadAgg rfl (by repeat constructor)) ?_)
  all_goals refine rt ?_
  all_goals clear h1 h2 h3 hN hn hd h
  all_goals first
    | (rw [show D.append n data = ((D.find n).2, D) by simp_all [DiskS.append]; try (intros; omega)]; exact ⟨_, ⟨rfl, rfl⟩, _, by repeat constructor⟩)
    | (rw [show D.append n data = (3, D) by simp_all [DiskS.append]; try (intros; omega)]; exact ⟨_, ⟨rfl, rfl⟩, _, by repeat constructor⟩)
    | (rw [show D.append n data = (11, D) by simp_all [DiskS.append]; try (intros; omega)]; exact ⟨_, ⟨rfl, rfl⟩, _, by repeat constructor⟩)
    | (rw [show D.append n data = (6, D) by simp_all [DiskS.append]; try (intros; omega)]; exact ⟨_, ⟨rfl, rfl⟩, _, by repeat constructor⟩)
    | (rw [show D.append n data = D.turn by simp_all [DiskS.append]; try (intros; omega)]; exact ⟨_, ⟨rfl, rfl⟩, _, by repeat constructor⟩)
    | (rw [show D.append n data = (0, { D.turn.2 with files := aput D.files n ⟨(D.find n).1.bytes ++ data, (D.find n).1.synced⟩ }) by simp_all [DiskS.append]; try (intros; omega)]; exact ⟨_, ⟨rfl, rfl⟩, _, by repeat constructor⟩)

theorem fine_tr (f : FileS) : Tr Tryz.prog 95 [fileE f] [] fun v Γ => v = .int .i64 0 ∧ Γ = [] := by
  refine Tr_of_J Tryz.func95 follows rfl Tryz.ntmps95 (by simp) fun B F => ?_
  repeat' (first | refine asn ?_ | refine jn ?_ | refine nl ?_ | refine sq ?_ | refine rg ?_ | refine kp ?_ | refine ct ?_ | refine cf ?_ | (refine cd (fun hc => ?_) (fun hc => ?_) <;> try (exfalso; omega)) | (refine cn (fun hc => ?_) (fun hc => ?_) <;> try (exfalso; omega)) | refine bl ?_ | refine ib ?_ | refine xt ?_ | refine bx (fun b_ => ?_) | refine af_ ?_ | refine cb (fun hc => ?_) (fun hc => ?_))
  refine rt ?_
  exact ⟨_, ⟨rfl, rfl⟩, _, by repeat constructor⟩
/-- What is done with a file: by what the test says and what the deed does. -/
theorem does_tr (d m : Nat) (D : DiskS) (h : D.Ok) (n : Nm) (fc fw : Nat) (cc cw : List Value) (C : Assn) (check : FileS → Int) (what : FileS → List (Nm × FileS) → List (Nm × FileS)) [IsFn Tryz.prog fc] [IsFn Tryz.prog fw]
    (hchk : ∀ f, Tr Tryz.prog fc (fileE f :: cc) [C] fun v Γ => v = .int .i64 (check f) ∧ Γ = [C])
    (hdo : ∀ f D', check f = 0 → Tr Tryz.prog fw (fileE f :: cw) [C, blk d (dcell m D'), mp fmap m D'.files] fun v Γ => Γ = [C, blk d (dcell m D'), mp fmap m (what f D'.files)]) :
    Tr Tryz.prog 94 [.pointer (some ⟨d, 0, none⟩), vs n, .func (.func fc) #[] ⟨cc⟩, .func (.func fw) #[] ⟨cw⟩] [C, blk d (dcell m D), mp fmap m D.files]
      fun v Γ => v = .int .i64 (D.does n check what).1 ∧ Γ = [C, blk d (dcell m (D.does n check what).2), mp fmap m (D.does n check what).2.files] := by
  refine Tr_of_J Tryz.func94 follows rfl Tryz.ntmps94 (by simp) fun B F => ?_
  repeat' (first | (refine cl (find_tr d m D n) ?_; rintro v Γ' ⟨rfl, rfl⟩; refine n2 ?_) | (refine cl (turn_tr d m D h) ?_; rintro v Γ' ⟨rfl, rfl⟩; refine n1 ?_) | (refine cl3 rfl (hchk (D.find n).1) ?_; rintro v Γ' ⟨rfl, rfl⟩; refine n1 ?_) | (refine cl3 rfl (hdo (D.find n).1 D.turn.2 (by assumption)) ?_; rintro v Γ' rfl; refine n3 ?_) | refine mv ?_ | refine asn ?_ | refine jn ?_ | refine nl ?_ | refine ld rfl ?_ | refine xt2 ?_ | refine sq ?_ | refine rg ?_ | refine eql ?_ | refine kp ?_ | refine ct ?_ | refine cf ?_ | (refine cd (fun hc => ?_) (fun hc => ?_) <;> try (exfalso; omega)) | (refine cn (fun hc => ?_) (fun hc => ?_) <;> try (exfalso; omega)) | refine bl ?_ | refine ib ?_ | refine xt ?_ | refine al (fun b_ => ?_) | refine sr rfl ?_ | refine la rfl ?_ | refine lde rfl ?_ | refine lae rfl ?_ | refine seq ?_ | refine af_ ?_ | refine aeq ?_ | refine cb (fun hc => ?_) (fun hc => ?_))
  all_goals refine rt ?_
  all_goals clear hchk hdo h
  all_goals first
    | (rw [show D.does n check what = ((D.find n).2, D) by simp_all [DiskS.does]]; exact ⟨_, ⟨rfl, rfl⟩, _, by repeat constructor⟩)
    | (rw [show D.does n check what = (check (D.find n).1, D) by simp_all [DiskS.does]]; exact ⟨_, ⟨rfl, rfl⟩, _, by repeat constructor⟩)
    | (rw [show D.does n check what = D.turn by simp_all [DiskS.does]]; exact ⟨_, ⟨rfl, rfl⟩, _, by repeat constructor⟩)
    | (rw [show D.does n check what = (0, { D.turn.2 with files := what (D.find n).1 D.files }) by simp_all [DiskS.does]]; exact ⟨_, ⟨by simp_all [tupleOf], rfl⟩, _, by repeat constructor⟩)
end Go.Proofs.YtaeefjcbmkiiaaaGreatDoor
/- The disk: sync, truncate, delete; a new one. -/
namespace Go.Proofs.YtaeefjcbmkiiaaaGreatDoor
open Go Sl
attribute [local irreducible] J JR JS RO CR Arr Sat Tr sat blk
set_option linter.unusedVariables false
set_option maxHeartbeats 400000
set_option maxRecDepth 4000

theorem Tr.open_all {P : Program} {f : FuncId} {args : List Value} {Δ R : List Assn} {Q : Value → List Assn → Prop} (h : Tr P f args (Δ ++ R) Q) : Tr P f args (all Δ :: R) Q := h.pre fun B F w hS => hS.all_open
/-- A disk's two closures' boxes. -/
abbrev bx2 (d b2 b3 : Nat) (n : Nm) : List Assn := [blk b2 (.cells ⟨[.pointer (some ⟨d, 0, none⟩)]⟩ 35 (0, 0)), blk b3 (.cells ⟨[vs n]⟩ 9 (0, 0))]
theorem sync1_tr (d m b2 b3 : Nat) (D : DiskS) (n : Nm) (f : FileS) :
    Tr Tryz.prog 142 [fileE f, .pointer (some ⟨b2, 0, none⟩), .pointer (some ⟨b3, 0, none⟩)] (all (bx2 d b2 b3 n) :: [blk d (dcell m D), mp fmap m D.files])
      fun v Γ => Γ = all (bx2 d b2 b3 n) :: [blk d (dcell m D), mp fmap m (aput D.files n ⟨f.bytes, f.bytes.length⟩)] := by
  refine (Tr.shut_all' ?_).open_all
  refine Tr_of_J Tryz.func142 follows rfl Tryz.ntmps142 (by simp) fun B F => ?_
  simp only [List.cons_append, List.nil_append]
  repeat' (first | refine mpu (q := n) (xv := ⟨f.bytes, f.bytes.length⟩) rfl rfl rfl rfl ?_ | refine jn ?_ | refine nl ?_ | refine ld rfl ?_ | refine nc ?_ | refine f0 ?_ | refine sq ?_ | refine rg ?_ | refine lnb ?_ | refine lls rfl ?_ | refine kp ?_ | refine ct ?_ | refine cf ?_ | (refine cd (fun hc => ?_) (fun hc => ?_) <;> try (exfalso; omega)) | (refine cn (fun hc => ?_) (fun hc => ?_) <;> try (exfalso; omega)) | refine bl ?_ | refine ib ?_ | refine xt ?_ | refine bx (fun b_ => ?_) | refine la rfl ?_ | refine fe ?_ | refine lde rfl ?_ | refine lae rfl ?_ | refine fa ?_ | refine bld ?_ | refine cb (fun hc => ?_) (fun hc => ?_) | refine J_draw (id := 1) [(0, true, []), (1, true, []), (2, true, []), (3, true, []), (4, true, []), (5, true, []), (6, true, []), (7, true, []), (8, true, []), (9, true, []), (10, true, []), (11, false, [])] (by kernel_rfl) ?_)
  refine rte ?_
  exact ⟨_, rfl, _, by repeat constructor⟩
theorem sync_tr (d m : Nat) (D : DiskS) (h : D.Ok) (n : Nm) :
    Tr Tryz.prog 90 [.pointer (some ⟨d, 0, none⟩), vs n] [blk d (dcell m D), mp fmap m D.files]
      fun v Γ => v = .int .i64 (D.sync n).1 ∧ Γ = [blk d (dcell m (D.sync n).2), mp fmap m (D.sync n).2.files] := by
  refine Tr_of_J Tryz.func90 follows rfl Tryz.ntmps90 (by simp) fun B F => ?_
  repeat' (first | refine asn ?_ | refine jn ?_ | refine nl ?_ | refine ld rfl ?_ | refine sq ?_ | refine rg ?_ | refine kp ?_ | refine ct ?_ | refine cf ?_ | (refine cd (fun hc => ?_) (fun hc => ?_) <;> try (exfalso; omega)) | (refine cn (fun hc => ?_) (fun hc => ?_) <;> try (exfalso; omega)) | refine bl ?_ | refine ib ?_ | refine xt ?_ | refine bx (fun b_ => ?_) | refine la rfl ?_ | refine lde rfl ?_ | refine lae rfl ?_ | refine mf2 ?_ | refine af_ ?_ | refine cb (fun hc => ?_) (fun hc => ?_))
  rename_i b2
  refine JR_sat (Γ' := [all (bx2 d b2 b_ n), blk d (dcell m D), mp fmap m D.files]) ?_ fun w hS => Sat.all_close (hS.perm (.swap _ _ _))
  refine cl (does_tr d m D h n 95 142 [] _ _ (fun _ => 0) (fun f l => aput l n ⟨f.bytes, f.bytes.length⟩) (fun f => (fine_tr f).framed) (fun f D' _ => sync1_tr d m b2 b_ D' n f)) ?_
  rintro v Γ' ⟨rfl, rfl⟩
  refine n3 ?_
  repeat' (first | refine asn ?_ | refine jn ?_ | refine nl ?_ | refine ld rfl ?_ | refine sq ?_ | refine rg ?_ | refine kp ?_ | refine ct ?_ | refine cf ?_ | (refine cd (fun hc => ?_) (fun hc => ?_) <;> try (exfalso; omega)) | (refine cn (fun hc => ?_) (fun hc => ?_) <;> try (exfalso; omega)) | refine bl ?_ | refine ib ?_ | refine xt ?_ | refine bx (fun b_ => ?_) | refine la rfl ?_ | refine lde rfl ?_ | refine lae rfl ?_ | refine mf2 ?_ | refine af_ ?_ | refine cb (fun hc => ?_) (fun hc => ?_))
  refine rt ?_
  exact ⟨_, ⟨rfl, rfl⟩, _, by repeat constructor⟩
theorem delete1_tr (d m b2 b3 : Nat) (D : DiskS) (n : Nm) (f : FileS) :
    Tr Tryz.prog 96 [fileE f, .pointer (some ⟨b2, 0, none⟩), .pointer (some ⟨b3, 0, none⟩)] (all (bx2 d b2 b3 n) :: [blk d (dcell m D), mp fmap m D.files])
      fun v Γ => Γ = all (bx2 d b2 b3 n) :: [blk d (dcell m D), mp fmap m (adel D.files n)] := by
  refine (Tr.shut_all' ?_).open_all
  refine Tr_of_J Tryz.func96 follows rfl Tryz.ntmps96 (by simp) fun B F => ?_
  simp only [List.cons_append, List.nil_append]
  repeat' (first | refine mdl (q := n) rfl rfl ?_ | refine jn ?_ | refine nl ?_ | refine ld rfl ?_ | refine nc ?_ | refine f0 ?_ | refine sq ?_ | refine rg ?_ | refine kp ?_ | refine ct ?_ | refine cf ?_ | (refine cd (fun hc => ?_) (fun hc => ?_) <;> try (exfalso; omega)) | (refine cn (fun hc => ?_) (fun hc => ?_) <;> try (exfalso; omega)) | refine bl ?_ | refine ib ?_ | refine xt ?_ | refine bx (fun b_ => ?_) | refine la rfl ?_ | refine fe ?_ | refine lde rfl ?_ | refine lae rfl ?_ | refine fa ?_ | refine cb (fun hc => ?_) (fun hc => ?_) | refine J_draw (id := 1) [(0, true, []), (1, true, []), (2, true, []), (3, true, []), (4, true, []), (5, false, [])] (by kernel_rfl) ?_)
  refine rte ?_
  exact ⟨_, rfl, _, by repeat constructor⟩
theorem delete_tr (d m : Nat) (D : DiskS) (h : D.Ok) (n : Nm) :
    Tr Tryz.prog 53 [.pointer (some ⟨d, 0, none⟩), vs n] [blk d (dcell m D), mp fmap m D.files]
      fun v Γ => v = .int .i64 (D.delete n).1 ∧ Γ = [blk d (dcell m (D.delete n).2), mp fmap m (D.delete n).2.files] := by
  refine Tr_of_J Tryz.func53 follows rfl Tryz.ntmps53 (by simp) fun B F => ?_
  repeat' (first | refine asn ?_ | refine jn ?_ | refine nl ?_ | refine ld rfl ?_ | refine sq ?_ | refine rg ?_ | refine kp ?_ | refine ct ?_ | refine cf ?_ | (refine cd (fun hc => ?_) (fun hc => ?_) <;> try (exfalso; omega)) | (refine cn (fun hc => ?_) (fun hc => ?_) <;> try (exfalso; omega)) | refine bl ?_ | refine ib ?_ | refine xt ?_ | refine bx (fun b_ => ?_) | refine la rfl ?_ | refine lde rfl ?_ | refine lae rfl ?_ | refine mf2 ?_ | refine af_ ?_ | refine cb (fun hc => ?_) (fun hc => ?_))
  rename_i b2
  refine JR_sat (Γ' := [all (bx2 d b2 b_ n), blk d (dcell m D), mp fmap m D.files]) ?_ fun w hS => Sat.all_close (hS.perm (.swap _ _ _))
  refine cl (does_tr d m D h n 95 96 [] _ _ (fun _ => 0) (fun f l => adel l n) (fun f => (fine_tr f).framed) (fun f D' _ => delete1_tr d m b2 b_ D' n f)) ?_
  rintro v Γ' ⟨rfl, rfl⟩
  refine n3 ?_
  repeat' (first | refine asn ?_ | refine jn ?_ | refine nl ?_ | refine ld rfl ?_ | refine sq ?_ | refine rg ?_ | refine kp ?_ | refine ct ?_ | refine cf ?_ | (refine cd (fun hc => ?_) (fun hc => ?_) <;> try (exfalso; omega)) | (refine cn (fun hc => ?_) (fun hc => ?_) <;> try (exfalso; omega)) | refine bl ?_ | refine ib ?_ | refine xt ?_ | refine bx (fun b_ => ?_) | refine la rfl ?_ | refine lde rfl ?_ | refine lae rfl ?_ | refine mf2 ?_ | refine af_ ?_ | refine cb (fun hc => ?_) (fun hc => ?_))
  refine rt ?_
  exact ⟨_, ⟨rfl, rfl⟩, _, by repeat constructor⟩
theorem new_tr (most : Int) (h0 : 0 ≤ most) (h1 : most ≤ 10000000) :
    Tr Tryz.prog 33 [.int .i64 most] [] fun v Γ => ∃ d m, v = .tuple #[.pointer (some ⟨d, 0, none⟩), .int .i64 0] ∧ Γ = [blk d (dcell m (DiskS.new most)), mp fmap m (DiskS.new most).files] := by
  refine Tr_of_J Tryz.func33 follows rfl Tryz.ntmps33 (by simp) fun B F => ?_
  repeat' (first | refine mkm fmap (fun m => ?_) | refine mv ?_ | refine asn ?_ | refine jn ?_ | refine nl ?_ | refine sq ?_ | refine rg ?_ | refine lss ?_ | refine gtr ?_ | refine p1 ?_ | refine p0 ?_ | refine sk2 ?_ | refine kp ?_ | refine ct ?_ | refine cf ?_ | (refine cd (fun hc => ?_) (fun hc => ?_) <;> try (exfalso; omega)) | (refine cn (fun hc => ?_) (fun hc => ?_) <;> try (exfalso; omega)) | refine bl ?_ | refine ib ?_ | refine xt ?_ | refine bx (fun b_ => ?_) | refine bld ?_ | refine af_ ?_ | (refine gd (fun hc => ?_) (fun hc => ?_) <;> try (exfalso; omega)) | (refine gn (fun hc => ?_) (fun hc => ?_) <;> try (exfalso; omega)) | refine cb (fun hc => ?_) (fun hc => ?_) | refine gs (fun hc => ?_) (fun hc => ?_))
  refine rt ?_
  exact ⟨_, ⟨_, _, rfl, rfl⟩, _, by repeat constructor⟩
end Go.Proofs.YtaeefjcbmkiiaaaGreatDoor
/- The log's small functions, walked. -/
namespace Go.Proofs.YtaeefjcbmkiiaaaGreatDoor
open Go Sl
attribute [local irreducible] J JR JS RO CR Arr Sat Tr sat blk
set_option linter.unusedVariables false
set_option maxHeartbeats 400000
set_option maxRecDepth 4000

def entE : EncT Ent where
  enc e := [.int .i64 e.index, .int .i64 e.term, .int .i64 e.kind, vs e.data]
  dec := fun l => match l with | [.int _ a, .int _ b, .int _ c, .string s] => ⟨a, b, c, s.data.toList⟩ | _ => ⟨0, 0, 0, []⟩
  sz := 4
  dflt := ⟨0, 0, 0, []⟩
  len _ := rfl
  ok _ := rfl
  pos := by decide
def segE : EncT Seg where
  enc s := [.int .i64 s.number, .int .i64 s.size, .int .i64 s.top]
  dec := fun l => match l with | [.int _ a, .int _ b, .int _ c] => ⟨a, b, c⟩ | _ => ⟨0, 0, 0⟩
  sz := 3
  dflt := ⟨0, 0, 0⟩
  len _ := rfl
  ok _ := rfl
  pos := by decide
instance : TEnc 70 entE := ⟨trivial⟩
instance : TEnc 94 segE := ⟨trivial⟩
abbrev entV (e : Ent) : Value := .agg ⟨[.int .i64 e.index, .int .i64 e.term, .int .i64 e.kind, vs e.data]⟩
abbrev segV (s : Seg) : Value := .agg ⟨[.int .i64 s.number, .int .i64 s.size, .int .i64 s.top]⟩
abbrev hrdV (h : Hrd) : Value := .agg ⟨[.int .i64 h.term, .int .i64 h.vote]⟩
/-- A log's own block. -/
abbrev lcell (d : Nat) (h : Hrd) (ev sv : Value) : Obj := .cells ⟨[.pointer (some ⟨d, 0, none⟩), .int .i64 h.term, .int .i64 h.vote, ev, sv]⟩ 92 (0, 0)

theorem right_tr (e : Ent) : Tr Tryz.prog 57 [entV e] [] fun v Γ => v = .bool e.right ∧ Γ = [] := by
  refine Tr_of_J Tryz.func57 follows rfl Tryz.ntmps57 (by simp) fun B F => ?_
  repeat' (first | refine mv ?_ | refine asn ?_ | refine jn ?_ | refine nl ?_ | refine ld rfl ?_ | refine f0 ?_ | refine sq ?_ | refine rg ?_ | refine gtr ?_ | refine geq ?_ | refine leq ?_ | refine p1 ?_ | refine p0 ?_ | refine sk2 ?_ | refine kp ?_ | refine ct ?_ | refine cf ?_ | (refine cd (fun hc => ?_) (fun hc => ?_) <;> try (exfalso; omega)) | (refine cn (fun hc => ?_) (fun hc => ?_) <;> try (exfalso; omega)) | refine bl ?_ | refine ib ?_ | refine xt ?_ | refine bx (fun b_ => ?_) | refine la rfl ?_ | refine fe ?_ | refine lde rfl ?_ | refine lae rfl ?_ | refine fa ?_ | refine af_ ?_ | (refine gd (fun hc => ?_) (fun hc => ?_) <;> try (exfalso; omega)) | (refine gn (fun hc => ?_) (fun hc => ?_) <;> try (exfalso; omega)) | refine cb (fun hc => ?_) (fun hc => ?_) | refine gs (fun hc => ?_) (fun hc => ?_) | fail)
  all_goals refine rt ?_
  all_goals refine ⟨_, ⟨?_, rfl⟩, _, by repeat constructor⟩
  all_goals (simp_all [Ent.right, tupleOf]; try (intros; omega))
theorem dec_len (n : Nat) (h : n < 100) : (Lib.decDigits n).length ≤ 2 := by
  unfold Lib.decDigits
  split
  · exact Nat.le_succ _
  · rw [List.length_append]
    unfold Lib.decDigits
    rw [dif_pos (by omega)]; exact Nat.le_refl _
theorem segName_tr (s : Seg) (h0 : 0 ≤ s.number) (h1 : s.number < 100) : Tr Tryz.prog 43 [segV s] [] fun v Γ => v = vs (segName s.number.toNat) ∧ Γ = [] := by
  obtain ⟨num, size, top⟩ := s
  dsimp only at h0 h1
  obtain ⟨n, rfl⟩ : ∃ n : Nat, num = n := ⟨num.toNat, by omega⟩
  have hd : (Lib.decDigits n).length ≤ 2 := dec_len n (by omega)
  refine Tr_of_J Tryz.func43 follows rfl Tryz.ntmps43 (by simp) fun B F => ?_
  repeat' (first | (refine cl (itoa_tr n (by omega)) ?_; rintro v Γ' ⟨rfl, rfl⟩; refine n0 ?_) | refine cc (a := [119]) ?_ rfl rfl (by simp; omega) | refine asn ?_ | refine jn ?_ | refine nl ?_ | refine ld rfl ?_ | refine f0 ?_ | refine sq ?_ | refine rg ?_ | refine ad ?_ | refine kp ?_ | refine ct ?_ | refine cf ?_ | (refine cd (fun hc => ?_) (fun hc => ?_) <;> try (exfalso; omega)) | (refine cn (fun hc => ?_) (fun hc => ?_) <;> try (exfalso; omega)) | refine bl ?_ | refine ib ?_ | refine xt ?_ | refine bx (fun b_ => ?_) | refine la rfl ?_ | refine fe ?_ | refine lde rfl ?_ | refine lae rfl ?_ | refine fa ?_ | refine cc ?_ | refine af_ ?_ | refine aw ?_ | refine cb (fun hc => ?_) (fun hc => ?_) | fail)
  refine rt ?_
  exact ⟨_, ⟨rfl, rfl⟩, _, by repeat constructor⟩
theorem hardText_tr (h : Hrd) (hi : h.In) : Tr Tryz.prog 84 [hrdV h] [] fun v Γ => v = vs (hardText h) ∧ Γ = [] := by
  have hr : ∀ n ∈ [1, h.term, h.vote], -9223372036854775808 ≤ n ∧ n ≤ 9223372036854775807 := by
    intro n hn
    simp only [List.mem_cons, List.not_mem_nil, or_false] at hn
    rcases hn with rfl | rfl | rfl
    · decide
    · exact hi.t
    · exact hi.v
  refine Tr_of_J Tryz.func84 follows rfl Tryz.ntmps84 (by simp) fun B F => ?_
  repeat' (first | refine bsl (e := intE) (X := [1, h.term, h.vote]) (fun v2 => ?_) (.cona rfl rfl (.cona rfl rfl (.cona rfl rfl .nil))) | (refine cl (Int_tr v2 [1, h.term, h.vote] (by simp) hr (by simp)) ?_; rintro v Γ' ⟨rfl, rfl⟩; refine n1 ?_) | refine asn ?_ | refine jn ?_ | refine nl ?_ | refine ld rfl ?_ | refine f0 ?_ | refine sq ?_ | refine rg ?_ | refine kp ?_ | refine ct ?_ | refine cf ?_ | (refine cd (fun hc => ?_) (fun hc => ?_) <;> try (exfalso; omega)) | (refine cn (fun hc => ?_) (fun hc => ?_) <;> try (exfalso; omega)) | refine bl ?_ | refine ib ?_ | refine xt ?_ | refine bx (fun b_ => ?_) | refine la rfl ?_ | refine fe ?_ | refine lde rfl ?_ | refine lae rfl ?_ | refine fa ?_ | refine af_ ?_ | refine cb (fun hc => ?_) (fun hc => ?_) | fail)
  refine rt ?_
  exact ⟨_, ⟨rfl, rfl⟩, _, by repeat constructor⟩
theorem entText_tr (e : Ent) (hi : e.In) (hd : e.data.length ≤ 1000000) : Tr Tryz.prog 58 [entV e] [] fun v Γ => v = vs (entText e) ∧ Γ = [] := by
  have hr : ∀ n ∈ [2, e.index, e.term, e.kind], -9223372036854775808 ≤ n ∧ n ≤ 9223372036854775807 := by
    intro n hn
    simp only [List.mem_cons, List.not_mem_nil, or_false] at hn
    rcases hn with rfl | rfl | rfl | rfl
    · decide
    · exact hi.i
    · exact hi.t
    · exact hi.k
  have hr2 : ∀ s ∈ [e.data], s.length ≤ 1000000 := by
    intro s hs
    rw [List.mem_singleton.1 hs]; exact hd
  have l1 : (encInts [2, e.index, e.term, e.kind]).length + (encTexts [e.data]).length ≤ 9223372036854775807 := by
    have h2 := (encInt_length (n := 2) (by decide) (by decide)).2
    have h3 := (encInt_length hi.i.1 hi.i.2).2
    have h4 := (encInt_length hi.t.1 hi.t.2).2
    have h5 := (encInt_length hi.k.1 hi.k.2).2
    have h6 := (encInt_length (n := e.data.length) (by omega) (by omega)).2
    simp only [encInts, encTexts, encText, List.flatMap_cons, List.flatMap_nil, List.length_append, List.append_nil]
    omega
  refine Tr_of_J Tryz.func58 follows rfl Tryz.ntmps58 (by simp) fun B F => ?_
  repeat' (first | refine bsl (e := intE) (X := [2, e.index, e.term, e.kind]) (fun v2 => ?_) (.cona rfl rfl (.cona rfl rfl (.cona rfl rfl (.cona rfl rfl .nil)))) | (refine cl (Int_tr v2 [2, e.index, e.term, e.kind] (by simp) hr (by simp)) ?_; rintro v Γ' ⟨rfl, rfl⟩; refine n1 ?_) | refine bsl (e := strE) (X := [e.data]) (fun v3 => ?_) (.cona rfl rfl .nil) | (refine cl (Text_tr v3 [e.data] (by simp) hr2 (by simp)) ?_; rintro v Γ' ⟨rfl, rfl⟩; refine n1 ?_) | refine cc ?_ rfl rfl l1 | refine asn ?_ | refine jn ?_ | refine nl ?_ | refine ld rfl ?_ | refine f0 ?_ | refine sq ?_ | refine rg ?_ | refine ad ?_ | refine kp ?_ | refine ct ?_ | refine cf ?_ | (refine cd (fun hc => ?_) (fun hc => ?_) <;> try (exfalso; omega)) | (refine cn (fun hc => ?_) (fun hc => ?_) <;> try (exfalso; omega)) | refine bl ?_ | refine ib ?_ | refine xt ?_ | refine bx (fun b_ => ?_) | refine la rfl ?_ | refine fe ?_ | refine lde rfl ?_ | refine lae rfl ?_ | refine fa ?_ | refine cc ?_ | refine af_ ?_ | refine aw ?_ | refine cb (fun hc => ?_) (fun hc => ?_) | refine J_draw3 (id := 1) [(0, true, []), (1, true, []), (2, true, []), (3, true, []), (4, true, []), (5, true, []), (8, true, []), (9, true, []), (6, false, [8, 9]), (7, false, [8, 9]), (10, false, [0, 1, 2, 3, 4, 5]), (11, false, []), (12, true, []), (13, true, [])] [(0, true, []), (1, true, []), (2, true, []), (3, true, []), (4, true, []), (5, true, []), (8, true, []), (9, true, []), (6, false, [8, 9]), (10, false, [0, 1, 2, 3, 4, 5]), (7, false, [8, 9]), (11, false, []), (12, true, []), (13, true, [])] [(0, true, []), (1, true, []), (2, true, []), (3, true, []), (4, true, []), (5, true, []), (8, true, []), (9, true, []), (10, false, [0, 1, 2, 3, 4, 5]), (6, false, [8, 9]), (7, false, [8, 9]), (11, false, []), (12, true, []), (13, true, [])] (by kernel_rfl) ?_ ?_ ?_ | refine JS_cons rfl rfl (RO_fieldAddr0 rfl) ?_ | refine JS_cons rfl rfl (RO_load rfl (by rfl)) ?_ | refine JS_off rfl ?_ | refine JS_cons rfl rfl (RO_fieldAddr rfl) ?_ | refine JS_cons rfl rfl (RO_add_in rfl rfl (by omega)) ?_ | refine JS_cons rfl rfl (RO_fe rfl) ?_ | refine JS_cons rfl rfl (RO_lde rfl (by omega) rfl) ?_ | refine JS_offu rfl ?_ | refine JS_cons rfl rfl (RO_cc rfl rfl (by omega)) ?_ | refine JS_cons rfl rfl (RO_lae rfl (by omega) (by repeat constructor)) ?_ | refine JS_cons rfl rfl (RO_loadAgg rfl (by repeat constructor)) ?_ | fail)
  all_goals refine rt ?_
  all_goals exact ⟨_, ⟨rfl, rfl⟩, _, by repeat constructor⟩
end Go.Proofs.YtaeefjcbmkiiaaaGreatDoor
/- The names of a map's files, sorted; numbers sorted; is a name among some. -/
namespace Go.Proofs.YtaeefjcbmkiiaaaGreatDoor
open Go Go.RowKit Go.Maps Go.Sort Go.Shelf Sl
set_option linter.unusedVariables false
set_option maxHeartbeats 400000

abbrev leN : Nm → Nm → Bool := fun x y => decide (x ≤ y)
def sortN (l : List Nm) : List Nm := l.mergeSort leN
theorem sorts76 (m : Nat) : AnyZ.SortsIn Tryz.prog Tryz.sorted76_ren Fence.wide m :=
  ⟨fun blk off cap ss W hH hblk hsz => callsIn_wide.2 (AnyM.slices_Sort_string Tryz.sort114 blk off cap ss W hH hblk hsz),
   fun p cap W => callsIn_wide.2 (AnyM.slices_Sort_string_none Tryz.sort114 p cap W)⟩
def rd0 : Value → Option (DataW Unit × List MemPlace) := fun _ => some (.nil, [])
theorem ownsRow_sl {B w w' : World} {F : Assn} {Γ : List Assn} {v : Value} {l : List Nm} {E : TypeId} {n : Nat} (hS : Sat B F Γ w) (hb : Below w.heap.size w w') (h : w'.ownsRow w.heap.size E 1 v n (l.map encStr)) (hn : n = l.length) (hnil : v = .slice none 0 0 ↔ l = []) : Sat B F (sl E strE v l :: Γ) w' := by
  subst hn
  rcases h.2 with ⟨h1, h2⟩ | ⟨g, cap, cur, h1, h2, h3, h4, h5, h6, h7⟩
  · have hl : l = [] := List.length_eq_zero_iff.1 h2
    subst hl
    rw [hnil.2 rfl]
    exact sl_nil (hS.below hb)
  · subst h1
    refine sl_close (e := strE) (L := l) (hS.fresh hb h2 h3) h4 h5 h6 ?_
    have : flat strE l = l.map encStr := by
      clear h3 h4 h6 h7 hnil h
      induction l with
      | nil => rfl
      | cons x l ih => rw [flat_cons, ih]; rfl
    rw [this]; exact h7
theorem sorted_tr (b m : Nat) (l : List (Nm × FileS)) (hnd : (l.map (·.1)).Nodup) (hl : l.length ≤ 1000) (hk : ∀ p ∈ l, p.1.length ≤ 1000000) :
    Tr Tryz.prog 76 [.func (.func 115) #[] ⟨[.pointer (some ⟨b, 0, none⟩)]⟩] [blk b (.cells ⟨[.map (some m)]⟩ 84 (0, 0)), mp fmap m l]
      fun v Γ => Γ = [sl 9 strE v (sortN (l.map (·.1))), blk b (.cells ⟨[.map (some m)]⟩ 84 (0, 0)), mp fmap m l] := by
  refine Tr.intro fun B F w hS => ?_
  have hbk := (hS.blk .here).2
  obtain ⟨es, clock, hi, hS2⟩ := mp_open (hS.perm (.swap _ _ _))
  have hmb := (hS2.blk .here).2
  have hblt : b < w.heap.size := (Array.getElem?_eq_some_iff.1 hbk).1
  have hlen : es.size = l.length := by have := congrArg List.length hi.kv; simpa using this
  have hkey : ∀ x ∈ es.toList, ∃ p ∈ l, x.key = vs p.1 := fun x hx => by
    have : ekv x ∈ l.map (mkv fmap) := by rw [← hi.kv]; exact List.mem_map.2 ⟨x, hx, rfl⟩
    obtain ⟨p, hp, he⟩ := List.mem_map.1 this
    exact ⟨p, hp, (congrArg Prod.fst he).symm⟩
  have hkeys : es.toList.map (·.key) = (l.map (·.1)).map vs := by
    have := congrArg (List.map Prod.fst) hi.kv
    rw [List.map_map, List.map_map] at this
    rw [List.map_map]
    exact this
  have hrd : ∀ x ∈ es.toList, ∀ p, x.key = vs p → p.length ≤ 1000000 → WideElems.rd (H := Unit) Tryz.prog 9 rd0 x = some (.string p, .nil) := fun x hx p hp hpl => by
    unfold WideElems.rd
    rw [hp, WideMaps.keyOf_string_mk (P := Tryz.prog) (k := 9) (by kernel_rfl) (by rw [bs_size]; unfold maxLen; omega)]
    simp [rd0]
  have hfit : WideElems.Fit (H := Unit) Tryz.prog 9 rd0 es clock := by
    refine ⟨by rw [hlen]; unfold maxLen; omega, ⟨hi.lt, hi.nd, ?_⟩, fun x hx => ?_⟩
    · rw [hkeys]
      exact List.pairwise_map.2 (List.Pairwise.imp (fun h e => h (bs_inj.1 (Value.string.inj e))) hnd)
    · obtain ⟨p, hp, he⟩ := hkey x hx
      exact ⟨_, hrd x hx p.1 he (hk p hp)⟩
  have hrg : es.toList.map (WideElems.rg (H := Unit) Tryz.prog 9 rd0) = (l.map (·.1)).map fun n => (Lit.string n, DataW.nil) := by
    have h1 : ∀ (L : List MapEntry) (K : List (Nm × FileS)), (∀ x ∈ L, ∀ p, x.key = vs p → p.length ≤ 1000000 → WideElems.rd (H := Unit) Tryz.prog 9 rd0 x = some (.string p, .nil)) → (∀ p ∈ K, p.1.length ≤ 1000000) → L.map (·.key) = (K.map (·.1)).map vs → L.map (WideElems.rg (H := Unit) Tryz.prog 9 rd0) = (K.map (·.1)).map fun n => (Lit.string n, DataW.nil) := by
      intro L
      induction L with
      | nil => intro K _ _ h; cases K with | nil => rfl | cons _ _ => cases h
      | cons x L ih =>
        intro K hr hK h
        cases K with
        | nil => cases h
        | cons p K =>
          simp only [List.map_cons, List.cons.injEq] at h ⊢
          exact ⟨WideElems.rg_of (hr x (List.mem_cons_self ..) p.1 h.1 (hK p (List.mem_cons_self ..))), ih K (fun y hy => hr y (List.mem_cons_of_mem _ hy)) (fun q hq => hK q (List.mem_cons_of_mem _ hq)) h.2⟩
    exact h1 _ _ hrd hk hkeys
  let D0 : DataW Unit := .map ((es.toList.map (WideElems.rg (H := Unit) Tryz.prog 9 rd0)).foldr DataW.insert [])
  have hown : w.ownsMap Tryz.prog 9 rd0 m es.size D0 := ⟨es, clock, hmb, hfit, Nat.le_refl _, rfl⟩
  have hsz : Maps.size D0 = l.length := by
    show (List.foldr DataW.insert [] _).length = _
    rw [length_sorted, List.length_map, Array.length_toList, hlen]
  have hperm : (strKeys D0).Perm (l.map (·.1)) := by
    show (List.map _ (List.foldr DataW.insert [] _)).Perm _
    refine ((WideShapes.sorted_perm _).map _).trans ?_
    rw [hrg, List.map_map]
    exact List.Perm.of_eq (by simp only [List.map_map]; rfl)
  have hseq := AnyZ.keys_gives (ρ := Tryz.keys77_ren) { Tryz.keys77 with } Fence.wide 2 trivial rfl (by omega) b m es.size D0 (R := rd0) w hblt (cell_of hbk rfl) hown
  have hc := AnyZ.sorted_in Tryz.sorted76 Fence.wide 5 trivial trivial trivial trivial rfl (by omega) (sorts76 _) (enters_of Tryz.func114 (by kernel_rfl) rfl) 115 #[.pointer (some ⟨b, 0, none⟩)] trivial (enters_of Tryz.func115 (by kernel_rfl) rfl) _ (Maps.size D0) (by rw [hsz]; unfold maxLen; omega) (by rw [hsz]; omega) w hseq
  refine ((callsIn_wide (n := 5)).1 hc).mono ?_
  rintro e w' ⟨v, ss, rfl, hS', hrow, hnil, hb⟩
  have hsort : ss.mergeSort leN = sortN (l.map (·.1)) := by
    exact mergeSort_of_perm (hS'.trans hperm)
  refine ⟨v, _, rfl, rfl, ?_⟩
  rw [← hsort]
  have hnil2 : v = .slice none 0 0 ↔ ss.mergeSort leN = [] := by
    rw [hnil]
    constructor
    · rintro rfl; simp
    · intro h
      have := congrArg List.length h
      rw [List.length_mergeSort] at this
      exact List.length_eq_zero_iff.1 this
  exact ownsRow_sl hS hb hrow (by simp) hnil2
end Go.Proofs.YtaeefjcbmkiiaaaGreatDoor
/- The disk: its list of names. -/
namespace Go.Proofs.YtaeefjcbmkiiaaaGreatDoor
open Go Sl
attribute [local irreducible] J JR JS RO CR Arr Sat Tr sat blk
set_option linter.unusedVariables false
set_option maxHeartbeats 400000
set_option maxRecDepth 4000
theorem keys_tr (m : Nat) : Tr Tryz.prog 77 [.map (some m)] [] fun v Γ => ∃ b, v = .func (.func 115) ⟨[]⟩ ⟨[.pointer (some ⟨b, 0, none⟩)]⟩ ∧ Γ = [blk b (.cells ⟨[.map (some m)]⟩ 84 (0, 0))] := by
  refine Tr_of_J Tryz.func77 follows rfl Tryz.ntmps77 (by simp) fun B F => ?_
  repeat' (first | refine asn ?_ | refine jn ?_ | refine nl ?_ | refine sq ?_ | refine rg ?_ | refine kp ?_ | refine ct ?_ | refine cf ?_ | (refine cd (fun hc => ?_) (fun hc => ?_) <;> try (exfalso; omega)) | (refine cn (fun hc => ?_) (fun hc => ?_) <;> try (exfalso; omega)) | refine bl ?_ | refine ib ?_ | refine xt ?_ | refine bx (fun b_ => ?_) | refine mf2 ?_ | refine af_ ?_ | refine cb (fun hc => ?_) (fun hc => ?_))
  refine rt ?_
  exact ⟨_, ⟨_, rfl, rfl⟩, _, by repeat constructor⟩
theorem list_tr (d m : Nat) (D : DiskS) (h : D.Ok) : Tr Tryz.prog 45 [.pointer (some ⟨d, 0, none⟩)] [blk d (dcell m D), mp fmap m D.files]
    fun v Γ => Γ = [sl 9 strE v (sortN (D.files.map (·.1))), blk d (dcell m D), mp fmap m D.files] := by
  refine Tr_of_J Tryz.func45 follows rfl Tryz.ntmps45 (by simp) fun B F => ?_
  repeat' (first | (refine cl (keys_tr m) ?_; rintro v Γ' ⟨b, rfl, rfl⟩; refine n1 ?_) | (refine cl (sorted_tr b m D.files h.nd (Nat.le_trans h.ct (by decide)) (fun p hp => Nat.le_trans (h.nm p hp) (by decide))) ?_; rintro v Γ' rfl; refine n3 ?_) | refine mv ?_ | refine asn ?_ | refine jn ?_ | refine nl ?_ | refine ld rfl ?_ | refine nc ?_ | refine f0 ?_ | refine sq ?_ | refine rg ?_ | refine kp ?_ | refine ct ?_ | refine cf ?_ | (refine cd (fun hc => ?_) (fun hc => ?_) <;> try (exfalso; omega)) | (refine cn (fun hc => ?_) (fun hc => ?_) <;> try (exfalso; omega)) | refine bl ?_ | refine ib ?_ | refine xt ?_ | refine la rfl ?_ | refine fe ?_ | refine lde rfl ?_ | refine lae rfl ?_ | refine fa ?_ | refine af_ ?_ | refine cb (fun hc => ?_) (fun hc => ?_))
  refine rt ?_
  exact ⟨_, rfl, _, by repeat constructor⟩
end Go.Proofs.YtaeefjcbmkiiaaaGreatDoor
/- The log: what it tells; an entry put. -/
namespace Go.Proofs.YtaeefjcbmkiiaaaGreatDoor
open Go Sl
attribute [local irreducible] J JR JS RO CR Arr Sat Tr sat blk
set_option linter.unusedVariables false
set_option maxHeartbeats 400000
set_option maxRecDepth 4000
theorem hard_tr (w d : Nat) (h : Hrd) (ev sv : Value) : Tr Tryz.prog 17 [.pointer (some ⟨w, 0, none⟩)] [blk w (lcell d h ev sv)] fun v Γ => v = hrdV h ∧ Γ = [blk w (lcell d h ev sv)] := by
  refine Tr_of_J Tryz.func17 follows rfl Tryz.ntmps17 (by simp) fun B F => ?_
  repeat' (first | refine mv ?_ | refine jn ?_ | refine nl ?_ | refine ld rfl ?_ | refine nc ?_ | refine f0 ?_ | refine sq ?_ | refine rg ?_ | refine kp ?_ | refine ct ?_ | refine cf ?_ | (refine cd (fun hc => ?_) (fun hc => ?_) <;> try (exfalso; omega)) | (refine cn (fun hc => ?_) (fun hc => ?_) <;> try (exfalso; omega)) | refine bl ?_ | refine ib ?_ | refine xt ?_ | refine al (fun b_ => ?_) | refine sr rfl ?_ | refine la rfl ?_ | refine fe ?_ | refine lde rfl ?_ | refine lae rfl ?_ | refine fa ?_ | refine cb (fun hc => ?_) (fun hc => ?_) | fail)
  refine rt ?_ rfl (.agg rfl (by repeat constructor) (by repeat constructor))
  exact ⟨_, ⟨rfl, rfl⟩, _, by repeat constructor⟩
theorem cloneE_tr (v : Value) (L : List Ent) (hl : L.length ≤ 1000000) : Tr Tryz.prog 44 [v] [sl 70 entE v L] fun r Γ => Γ = [sl 70 entE v L, sl 70 entE r L] := by
  refine Tr_of_J Tryz.func44 follows rfl Tryz.ntmps44 (by simp) fun B F => ?_
  repeat' (first | refine sen rfl (fun e1 e2 => ?_) (fun e1 => ?_) | refine bsl (e := entE) (X := []) (fun v2 => ?_) .nil | refine apo rfl rfl (fun v3 => ?_) (by simp; omega) (by simp; omega) | refine mv ?_ | refine asn ?_ | refine jn ?_ | refine nl ?_ | refine sq ?_ | refine rg ?_ | refine kp ?_ | refine ct ?_ | refine cf ?_ | (refine cd (fun hc => ?_) (fun hc => ?_) <;> try (exfalso; omega)) | (refine cn (fun hc => ?_) (fun hc => ?_) <;> try (exfalso; omega)) | refine bl ?_ | refine ib ?_ | refine xt ?_ | refine af_ ?_ | refine cb (fun hc => ?_) (fun hc => ?_) | fail)
  · subst e1 e2
    refine J_sat (Γ' := sl 70 entE (.slice none 0 0) [] :: _) ?_ fun w hS => sl_nil hS
    refine rt ?_
    exact ⟨_, rfl, _, by repeat constructor⟩
  · rw [List.nil_append]
    refine rt ?_
    exact ⟨_, rfl, _, by repeat constructor⟩
theorem cloneS_tr (v : Value) (L : List Seg) (hl : L.length ≤ 1000000) : Tr Tryz.prog 54 [v] [sl 94 segE v L] fun r Γ => Γ = [sl 94 segE v L, sl 94 segE r L] := by
  refine Tr_of_J Tryz.func54 follows rfl Tryz.ntmps54 (by simp) fun B F => ?_
  repeat' (first | refine sen rfl (fun e1 e2 => ?_) (fun e1 => ?_) | refine bsl (e := segE) (X := []) (fun v2 => ?_) .nil | refine apo rfl rfl (fun v3 => ?_) (by simp; omega) (by simp; omega) | refine mv ?_ | refine asn ?_ | refine jn ?_ | refine nl ?_ | refine sq ?_ | refine rg ?_ | refine kp ?_ | refine ct ?_ | refine cf ?_ | (refine cd (fun hc => ?_) (fun hc => ?_) <;> try (exfalso; omega)) | (refine cn (fun hc => ?_) (fun hc => ?_) <;> try (exfalso; omega)) | refine bl ?_ | refine ib ?_ | refine xt ?_ | refine af_ ?_ | refine cb (fun hc => ?_) (fun hc => ?_) | fail)
  · subst e1 e2
    refine J_sat (Γ' := sl 94 segE (.slice none 0 0) [] :: _) ?_ fun w hS => sl_nil hS
    refine rt ?_
    exact ⟨_, rfl, _, by repeat constructor⟩
  · rw [List.nil_append]
    refine rt ?_
    exact ⟨_, rfl, _, by repeat constructor⟩
theorem entries_tr (w d : Nat) (h : Hrd) (ev sv : Value) (L : List Ent) (hl : L.length ≤ 1000000) : Tr Tryz.prog 19 [.pointer (some ⟨w, 0, none⟩)] [blk w (lcell d h ev sv), sl 70 entE ev L] fun v Γ => Γ = [blk w (lcell d h ev sv), sl 70 entE ev L, sl 70 entE v L] := by
  refine Tr_of_J Tryz.func19 follows rfl Tryz.ntmps19 (by simp) fun B F => ?_
  repeat' (first | (refine cl (cloneE_tr ev L hl) ?_; rintro v Γ' rfl; refine n2 ?_) | refine mv ?_ | refine asn ?_ | refine jn ?_ | refine nl ?_ | refine ld rfl ?_ | refine nc ?_ | refine f0 ?_ | refine sq ?_ | refine rg ?_ | refine kp ?_ | refine ct ?_ | refine cf ?_ | (refine cd (fun hc => ?_) (fun hc => ?_) <;> try (exfalso; omega)) | (refine cn (fun hc => ?_) (fun hc => ?_) <;> try (exfalso; omega)) | refine bl ?_ | refine ib ?_ | refine xt ?_ | refine la rfl ?_ | refine fe ?_ | refine lde rfl ?_ | refine lae rfl ?_ | refine fa ?_ | refine af_ ?_ | refine cb (fun hc => ?_) (fun hc => ?_) | fail)
  refine rt ?_
  exact ⟨_, rfl, _, by repeat constructor⟩
end Go.Proofs.YtaeefjcbmkiiaaaGreatDoor
/- The log: an entry put. -/
namespace Go.Proofs.YtaeefjcbmkiiaaaGreatDoor
open Go Sl
attribute [local irreducible] J JR JS RO CR Arr Sat Tr sat blk
set_option linter.unusedVariables false
set_option maxHeartbeats 400000
set_option maxRecDepth 4000
section
open Go.RowKit
variable {c : Ctx} {k : List Item} {st : St} {Γ : List Assn} {d : Option Tmp} {ty : TypeId} {pos : String} {af : Array Edge} {g : Option (Nat × Bool)} {ops : Array Oper} {rs : List Oper} {l : List Stp} {fl : Bool}
/-- append(s[:n], xs...), s owned, xs read. -/
theorem apt {x y : Operand} {T : TypeId} {α : Type} {e : EncT α} {L X : List α} {E bb n : Nat} {z s v : Value} {Γ' : List Assn} [ht : TSlice c.P T E] [hz : ESize c.P E e.sz bb] [hZ : TZero c.P E z] (hx : Sl.ev st x = some (vw v 0 n e.sz)) (hy : Sl.ev st y = some s) [hs : SelS Γ v E e L Γ'] [hr : RdG Γ s e X] (hn : n ≤ L.length) (h : ∀ v', JS c ops rs l k (stput d v' st) (sl E e v' (L.take n ++ X) :: Γ'))
    (hb : ((L.take n).length + X.length) * bb ≤ 140737488355328) (hm : (L.take n).length + X.length ≤ 9223372036854775807) (hzl : z.cells.size = e.sz := by rfl) (hg : gOk ops st ⟨d, .call ⟨.builtin .append, #[x, y], #[T, T]⟩, ty, pos, af, g⟩ = some true := by rfl) (hd : dOk d c.n = true := by rfl) :
    JR c ops (⟨⟨d, .call ⟨.builtin .append, #[x, y], #[T, T]⟩, ty, pos, af, g⟩, false, rs⟩ :: l) k st Γ :=
  apd hx hy (fun B F w hS => tgt_take hn (tgt_sl (hS.perm hs.h.perm))) (fun B F w hS => hr.h B F w hS) h hb hm hzl hg hd
theorem RO_sub_eq {x y : Operand} {T U : TypeId} {i : IntKind} {m n r : Int} (hx : ev st x = some (.int i m)) (hy : ev st y = some (.int i n)) (he : i.wrap (m - n) = r) : RO c st Γ ⟨d, .binOp .sub T x y U, ty, pos, af, g⟩ (.int i r) := by
  subst he; exact RO_sub hx hy
end
theorem put_tr (w d : Nat) (h : Hrd) (ev sv : Value) (L : List Ent) (S : List Seg) (e : Ent) (he : e.In) (he0 : 0 < e.index) (hL : Rise L) (hS : S ≠ []) (hSl : S.length ≤ 100000) (hLl : L.length ≤ 1000000) :
    Tr Tryz.prog 60 [.pointer (some ⟨w, 0, none⟩), entV e] [blk w (lcell d h ev sv), sl 70 entE ev L, sl 94 segE sv S]
      fun v Γ => ∃ ev', Γ = [blk w (lcell d h ev' sv), sl 70 entE ev' (putE L e), sl 94 segE sv (setTop S e.index)] := by
  have hS0 : 0 < S.length := List.length_pos_iff.2 hS
  refine Tr_of_J Tryz.func60 follows rfl Tryz.ntmps60 (by simp) fun B F => ?_
  repeat' (first | refine bsl (e := entE) (X := [e]) (fun v2 => ?_) (.cona rfl rfl .nil) | refine sro rfl rfl ?_ | refine sre rfl ?_ | refine mv ?_ | refine asn ?_ | refine jn ?_ | refine nl ?_ | refine ld rfl ?_ | refine nc ?_ | refine f0 ?_ | refine sq ?_ | refine rg ?_ | refine lnb ?_ | refine lls rfl ?_ | refine ad ?_ | refine sb ?_ | refine lss ?_ | refine eql ?_ | refine gtr ?_ | refine p1 ?_ | refine p0 ?_ | refine sk2 ?_ | refine kp ?_ | refine ct ?_ | refine cf ?_ | (refine cd (fun hc => ?_) (fun hc => ?_) <;> try (exfalso; omega)) | (refine cn (fun hc => ?_) (fun hc => ?_) <;> try (exfalso; omega)) | refine bl ?_ | refine ib ?_ | refine xt ?_ | refine bx (fun b_ => ?_) | refine sr rfl ?_ | refine la rfl ?_ | refine ixa rfl rfl ?_ | refine fe ?_ | refine lde rfl ?_ | refine lae rfl ?_ | refine fa ?_ | refine cc ?_ | refine slb ?_ | refine slbl ?_ | refine slbh ?_ | refine mx ?_ | refine af_ ?_ | (refine gd (fun hc => ?_) (fun hc => ?_) <;> try (exfalso; omega)) | (refine gn (fun hc => ?_) (fun hc => ?_) <;> try (exfalso; omega)) | refine aw ?_ | refine sw ?_ | refine sli rfl ?_ | refine slil rfl ?_ | refine slih rfl ?_ | refine cb (fun hc => ?_) (fun hc => ?_) | refine gs (fun hc => ?_) (fun hc => ?_) | refine J_draw (id := 1) [(0, true, []), (1, true, []), (2, true, []), (3, true, []), (4, true, []), (5, true, []), (6, true, []), (7, true, []), (8, true, []), (9, true, []), (10, true, []), (11, true, [])] (by kernel_rfl) ?_ | refine J_draw (id := 2) [(0, true, []), (1, true, []), (2, true, []), (3, true, []), (4, true, []), (5, true, []), (6, true, []), (7, true, []), (8, true, []), (9, true, []), (10, false, [])] (by kernel_rfl) ?_ | refine J_draw (id := 4) [(0, true, []), (1, true, []), (2, true, []), (3, true, []), (4, true, []), (5, true, []), (6, true, []), (7, true, []), (8, true, []), (9, true, []), (10, true, []), (11, true, []), (12, true, []), (13, true, []), (14, true, []), (15, true, []), (16, true, []), (17, true, []), (18, true, []), (19, true, []), (20, true, []), (21, true, []), (22, true, []), (23, true, []), (24, true, []), (25, true, []), (26, true, []), (27, true, []), (28, true, [])] (by kernel_rfl) ?_ | refine J_draw (id := 6) [(0, true, []), (1, true, []), (2, true, []), (3, true, []), (4, true, []), (5, true, []), (6, true, []), (7, true, []), (8, true, []), (9, true, []), (10, true, []), (11, true, []), (12, true, []), (13, true, []), (14, true, []), (15, true, []), (16, true, []), (17, false, [0, 1, 2, 3, 4, 5, 6, 7, 8, 9, 10, 11, 12, 13, 14, 15]), (18, false, [0]), (19, true, []), (20, true, []), (21, false, [])] (by kernel_rfl) ?_ | refine JS_cons rfl rfl (RO_move rfl) ?_ | refine JS_cons rfl rfl (RO_nilCheck rfl) ?_ | refine JS_cons rfl rfl (RO_fieldAddr0 rfl) ?_ | refine JS_cons rfl rfl (RO_load rfl (by rfl)) ?_ | refine JS_off rfl ?_ | refine JS_cons rfl rfl (RO_fieldAddr rfl) ?_ | refine JS_cons rfl rfl (RO_lnb rfl) ?_ | refine JS_cons rfl rfl (RO_lls rfl) ?_ | refine JS_cons rfl rfl (RO_add_in rfl rfl (by omega)) ?_ | refine JS_cons rfl rfl (RO_sub_in rfl rfl (by omega)) ?_ | refine JS_cons rfl rfl (RO_ixa rfl rfl (by omega)) ?_ | refine JS_cons rfl rfl (RO_fe rfl) ?_ | refine JS_cons rfl rfl (RO_lde rfl (by omega) rfl) ?_ | refine JS_cons rfl rfl (RO_slih rfl rfl (by omega)) ?_ | refine JS_cons rfl rfl (RO_slil rfl rfl (by omega)) ?_ | refine JS_offu rfl ?_ | refine JS_cons rfl rfl (RO_cc rfl rfl (by omega)) ?_ | refine JS_cons rfl rfl (RO_lae rfl (by omega) (by repeat constructor)) ?_ | refine JS_cons rfl rfl (RO_loadAgg rfl (by repeat constructor)) ?_ | fail)
  · rw [show putE L e = [e] by simp_all [putE]]
    refine rt ?_
    exact ⟨_, ⟨_, rfl⟩, _, by repeat constructor⟩
  · rw [show putE L e = [e] from if_pos (.inr (.inl ‹_›))]
    refine rt ?_
    exact ⟨_, ⟨_, rfl⟩, _, by repeat constructor⟩
  · rw [show putE L e = [e] from if_pos (.inr (.inr ‹_›))]
    refine rt ?_
    exact ⟨_, ⟨_, rfl⟩, _, by repeat constructor⟩
  · rename_i h1 h2
    have h3 : ¬ e.index < (headE L).index := ‹_›
    have h0 : 0 < L.length := by omega
    have hlast : (lastE L).index = (headE L).index + (L.length - 1 : Nat) := by
      have := hL.up (L.length - 1) (by omega)
      unfold lastE headE
      rw [show ((L.length : Int) - 1).toNat = L.length - 1 by omega]
      exact this
    have hmem : ∀ i, i < L.length → I64 (L.getD i .none).index := fun i hi => by
      rw [List.getD_eq_getElem?_getD, List.getElem?_eq_getElem hi]
      exact (hL.in_ _ (List.getElem_mem hi)).i
    have hA : I64 (lastE L).index := hmem _ (by omega)
    have hB : I64 (headE L).index := hmem _ h0
    have hE := he.i
    unfold I64 at hA hB hE
    have hw1 : ¬ IntKind.i64.wrap ((lastE L).index + 1) < e.index := ‹_›
    have hle : e.index - (headE L).index ≤ L.length := by
      by_cases hm : (lastE L).index + 1 ≤ 9223372036854775807
      · rw [wrap_in (by omega) hm] at hw1; omega
      · have : (lastE L).index + 1 = 9223372036854775808 := by omega
        rw [this] at hw1
        have : IntKind.i64.wrap 9223372036854775808 = -9223372036854775808 := by decide
        rw [this] at hw1; omega
    have hw : IntKind.i64.wrap (e.index - (headE L).index) = e.index - (headE L).index := wrap_in (by omega) (by omega)
    have hw' : IntKind.i64.wrap (e.index - (L.getD (Int.toNat 0) entE.dflt).index) = e.index - (headE L).index := hw
    rw [hw']
    have hput : putE L e = L.take (e.index - (headE L).index).toNat ++ [e] := if_neg (by rintro (h | h | h) <;> omega)
    rw [hput]
    have hw2 : IntKind.i64.wrap (e.index - (L.getD (Int.toNat 0) entE.dflt).index) = e.index - (headE L).index := hw'
    have hge : 0 ≤ e.index - (headE L).index := by omega
    generalize hk : e.index - (headE L).index = kk at hle hge hw2 ⊢
    repeat' (first | refine slih rfl ?_ | refine bsl (e := entE) (X := [e]) (fun v2 => ?_) (.cona rfl rfl .nil) | refine JS_cons rfl rfl (RO_sub_eq rfl rfl hw2) ?_ | refine apt rfl rfl (n := kk.toNat) (v := ev) (by omega) (fun v3 => ?_) (by simp; omega) (by simp; omega) | refine sro rfl rfl ?_ | refine mv ?_ | refine asn ?_ | refine jn ?_ | refine nl ?_ | refine ld rfl ?_ | refine nc ?_ | refine f0 ?_ | refine sq ?_ | refine rg ?_ | refine lnb ?_ | refine lls rfl ?_ | refine ad ?_ | refine sb ?_ | refine lss ?_ | refine eql ?_ | refine gtr ?_ | refine p1 ?_ | refine p0 ?_ | refine sk2 ?_ | refine kp ?_ | refine ct ?_ | refine cf ?_ | (refine cd (fun hc => ?_) (fun hc => ?_) <;> try (exfalso; omega)) | (refine cn (fun hc => ?_) (fun hc => ?_) <;> try (exfalso; omega)) | refine bl ?_ | refine ib ?_ | refine xt ?_ | refine bx (fun b_ => ?_) | refine sr rfl ?_ | refine la rfl ?_ | refine ixa rfl rfl ?_ | refine fe ?_ | refine lde rfl ?_ | refine lae rfl ?_ | refine fa ?_ | refine cc ?_ | refine slb ?_ | refine slbl ?_ | refine slbh ?_ | refine mx ?_ | refine af_ ?_ | (refine gd (fun hc => ?_) (fun hc => ?_) <;> try (exfalso; omega)) | (refine gn (fun hc => ?_) (fun hc => ?_) <;> try (exfalso; omega)) | refine aw ?_ | refine sw ?_ | refine sli rfl ?_ | refine slil rfl ?_ | refine slih rfl ?_ | refine cb (fun hc => ?_) (fun hc => ?_) | refine gs (fun hc => ?_) (fun hc => ?_) | refine J_draw (id := 1) [(0, true, []), (1, true, []), (2, true, []), (3, true, []), (4, true, []), (5, true, []), (6, true, []), (7, true, []), (8, true, []), (9, true, []), (10, true, []), (11, true, [])] (by kernel_rfl) ?_ | refine J_draw (id := 2) [(0, true, []), (1, true, []), (2, true, []), (3, true, []), (4, true, []), (5, true, []), (6, true, []), (7, true, []), (8, true, []), (9, true, []), (10, false, [])] (by kernel_rfl) ?_ | refine J_draw (id := 4) [(0, true, []), (1, true, []), (2, true, []), (3, true, []), (4, true, []), (5, true, []), (6, true, []), (7, true, []), (8, true, []), (9, true, []), (10, true, []), (11, true, []), (12, true, []), (13, true, []), (14, true, []), (15, true, []), (16, true, []), (17, true, []), (18, true, []), (19, true, []), (20, true, []), (21, true, []), (22, true, []), (23, true, []), (24, true, []), (25, true, []), (26, true, []), (27, true, []), (28, true, [])] (by kernel_rfl) ?_ | refine J_draw (id := 6) [(0, true, []), (1, true, []), (2, true, []), (3, true, []), (4, true, []), (5, true, []), (6, true, []), (7, true, []), (8, true, []), (9, true, []), (10, true, []), (11, true, []), (12, true, []), (13, true, []), (14, true, []), (15, true, []), (16, true, []), (17, false, [0, 1, 2, 3, 4, 5, 6, 7, 8, 9, 10, 11, 12, 13, 14, 15]), (18, false, [0]), (19, true, []), (20, true, []), (21, false, [])] (by kernel_rfl) ?_ | refine JS_cons rfl rfl (RO_move rfl) ?_ | refine JS_cons rfl rfl (RO_nilCheck rfl) ?_ | refine JS_cons rfl rfl (RO_fieldAddr0 rfl) ?_ | refine JS_cons rfl rfl (RO_load rfl (by rfl)) ?_ | refine JS_off rfl ?_ | refine JS_cons rfl rfl (RO_fieldAddr rfl) ?_ | refine JS_cons rfl rfl (RO_lnb rfl) ?_ | refine JS_cons rfl rfl (RO_lls rfl) ?_ | refine JS_cons rfl rfl (RO_add_in rfl rfl (by omega)) ?_ | refine JS_cons rfl rfl (RO_sub_in rfl rfl (by omega)) ?_ | refine JS_cons rfl rfl (RO_ixa rfl rfl (by omega)) ?_ | refine JS_cons rfl rfl (RO_fe rfl) ?_ | refine JS_cons rfl rfl (RO_lde rfl (by omega) rfl) ?_ | refine JS_cons rfl rfl (RO_slih rfl rfl (by omega)) ?_ | refine JS_cons rfl rfl (RO_slil rfl rfl (by omega)) ?_ | refine JS_offu rfl ?_ | refine JS_cons rfl rfl (RO_cc rfl rfl (by omega)) ?_ | refine JS_cons rfl rfl (RO_lae rfl (by omega) (by repeat constructor)) ?_ | refine JS_cons rfl rfl (RO_loadAgg rfl (by repeat constructor)) ?_ | fail)
    refine rte ?_
    exact ⟨_, ⟨_, rfl⟩, _, by repeat constructor⟩
end Go.Proofs.YtaeefjcbmkiiaaaGreatDoor
/- The log: what is laid down, saved, forgotten; what is so on a disk whose power stays: plain. -/
namespace Go.Proofs.YtaeefjcbmkiiaaaGreatDoor
open Go Sl
set_option linter.unusedVariables false

def frames (ps : List (List UInt8)) : List UInt8 := ps.flatMap frame
def segFile (s : Seg) : Nm := segName s.number.toNat
def told (S : List Seg) (h : Hrd) (tell : Bool) (ps : List (List UInt8)) : List (List UInt8) := if tell = true ∨ (lastS S).size = 0 then hardText h :: ps else ps
def layT (S : List Seg) (h : Hrd) (tell : Bool) (ps : List (List UInt8)) : List UInt8 := frames (told S h tell ps)
def layA (S : List Seg) (D : DiskS) (h : Hrd) (tell : Bool) (ps : List (List UInt8)) : Int × DiskS := D.append (segFile (lastS S)) (layT S h tell ps)
def grown (S : List Seg) (h : Hrd) (tell : Bool) (ps : List (List UInt8)) : List Seg := setLast S { lastS S with size := (lastS S).size + (layT S h tell ps).length }
/-- Records laid down: the error, the segments, the disk. -/
def layE (S : List Seg) (D : DiskS) (h : Hrd) (tell : Bool) (ps : List (List UInt8)) : Int := if (layA S D h tell ps).1 ≠ 0 then (layA S D h tell ps).1 else ((layA S D h tell ps).2.sync (segFile (lastS S))).1
def layS (S : List Seg) (D : DiskS) (h : Hrd) (tell : Bool) (ps : List (List UInt8)) : List Seg := if (layA S D h tell ps).1 ≠ 0 then S else grown S h tell ps
def layD (S : List Seg) (D : DiskS) (h : Hrd) (tell : Bool) (ps : List (List UInt8)) : DiskS := if (layA S D h tell ps).1 ≠ 0 then (layA S D h tell ps).2 else ((layA S D h tell ps).2.sync (segFile (lastS S))).2
def more (S : List Seg) : Prop := 2000 ≤ (lastS S).size ∧ (S.length : Int) < 20
instance (S : List Seg) : Decidable (more S) := by unfold more; infer_instance
def next (S : List Seg) : List Seg := S ++ [⟨(lastS S).number + 1, 0, 0⟩]
def begun (S : List Seg) : List Seg := if more S then next S else S
/-- The segments that are there, if the last one could not be begun. -/
def there (D : DiskS) (S0 S : List Seg) : List Seg := if segFile (lastS S) ∈ D.files.map (·.1) then S else S0
def puts (W : LogS) (l : List Ent) : LogS := l.foldl LogS.put W
/-- What a save comes to: the error, the log, the disk. -/
def LogS.save (W : LogS) (D : DiskS) (h : Hrd) (l : List Ent) : Int × LogS × DiskS :=
  if h.term < 0 ∨ h.vote < 0 ∨ (l.any fun e => !e.right) = true then (1, W, D)
  else if l = [] ∧ h = W.hard then (0, W, D)
  else if layE (begun W.segs) D h (decide (h ≠ W.hard)) (l.map entText) ≠ 0 then
    (layE (begun W.segs) D h (decide (h ≠ W.hard)) (l.map entText), { W with segs := if more W.segs then there (layD (begun W.segs) D h (decide (h ≠ W.hard)) (l.map entText)) W.segs (layS (begun W.segs) D h (decide (h ≠ W.hard)) (l.map entText)) else layS (begun W.segs) D h (decide (h ≠ W.hard)) (l.map entText) }, layD (begun W.segs) D h (decide (h ≠ W.hard)) (l.map entText))
  else (0, puts { W with hard := h, segs := layS (begun W.segs) D h (decide (h ≠ W.hard)) (l.map entText) } l, layD (begun W.segs) D h (decide (h ≠ W.hard)) (l.map entText))
def LogS.reset (W : LogS) (D : DiskS) : Int × LogS × DiskS :=
  if layE W.segs D W.hard false [resetText] ≠ 0 then (layE W.segs D W.hard false [resetText], { W with segs := layS W.segs D W.hard false [resetText] }, layD W.segs D W.hard false [resetText])
  else (0, { W with segs := layS W.segs D W.hard false [resetText], ents := [] }, layD W.segs D W.hard false [resetText])

/-! ### names of segments -/
def sn (n : Nat) : Nm := if n < 10 then [119, UInt8.ofNat (48 + n)] else [119, UInt8.ofNat (48 + n / 10), UInt8.ofNat (48 + n % 10)]
theorem segName_sn {n : Nat} (h : n < 100) : segName n = sn n := by
  unfold segName sn
  split
  · rw [Lib.decDigits_one (by assumption)]
  · rw [Lib.decDigits_two (by assumption) h]
def snVal (s : Nm) : Nat := match s with | [_, a] => a.toNat - 48 | [_, a, b] => (a.toNat - 48) * 10 + (b.toNat - 48) | _ => 0
theorem snVal_all : ∀ n : Fin 100, snVal (sn n.val) = n.val := by decide +kernel
theorem sn_ok : ∀ n : Fin 100, okName (sn n.val) = true := by decide +kernel
theorem segName_inj {a b : Nat} (ha : a < 100) (hb : b < 100) (h : segName a = segName b) : a = b := by
  rw [segName_sn ha, segName_sn hb] at h
  have := congrArg snVal h
  rwa [snVal_all ⟨a, ha⟩, snVal_all ⟨b, hb⟩] at this
theorem segName_ok {a : Nat} (ha : a < 100) : okName (segName a) = true := by
  rw [segName_sn ha]; exact sn_ok ⟨a, ha⟩
theorem segName_le {a : Nat} (ha : a < 100) : (segName a).length ≤ 24 := by
  have := segName_ok ha
  simp only [okName, Bool.and_eq_true, decide_eq_true_eq] at this
  exact this.1.2

/-! ### a disk whose power stays -/
theorem assoc_no {κ α : Type} [DecidableEq κ] {l : List (κ × α)} {k : κ} (h : k ∉ l.map (·.1)) : assoc l k = none := by
  cases ha : assoc l k with
  | none => rfl
  | some x => exact absurd (List.mem_map.2 ⟨_, assoc_mem ha, rfl⟩) h
theorem assoc_end {κ α : Type} [DecidableEq κ] {l : List (κ × α)} {k : κ} (x : α) (h : k ∉ l.map (·.1)) : assoc (l ++ [(k, x)]) k = some x := by
  induction l with
  | nil => simp [assoc]
  | cons p l ih =>
    obtain ⟨k', y⟩ := p
    simp only [List.map_cons, List.mem_cons, not_or] at h
    rw [List.cons_append, assoc, if_neg h.1]
    exact ih h.2
theorem aput_end {κ α : Type} [DecidableEq κ] {l : List (κ × α)} {k : κ} (x y : α) (h : k ∉ l.map (·.1)) : aput (l ++ [(k, x)]) k y = l ++ [(k, y)] := by
  induction l with
  | nil => simp [aput]
  | cons p l ih =>
    obtain ⟨k', z⟩ := p
    simp only [List.map_cons, List.mem_cons, not_or] at h
    rw [List.cons_append, aput, if_neg h.1, ih h.2, List.cons_append]
theorem aput_no {κ α : Type} [DecidableEq κ] {l : List (κ × α)} {k : κ} (y : α) (h : k ∉ l.map (·.1)) : aput l k y = l ++ [(k, y)] := by
  induction l with
  | nil => simp [aput]
  | cons p l ih =>
    obtain ⟨k', z⟩ := p
    simp only [List.map_cons, List.mem_cons, not_or] at h
    rw [aput, if_neg h.1, ih h.2, List.cons_append]
theorem turn_live {D : DiskS} (h1 : D.fuse = -1) : D.turn = (0, D) := by
  obtain ⟨a, b, c, d⟩ := D
  dsimp only at h1
  subst h1
  rfl
theorem app_old {D : DiskS} (h1 : D.dead = false) (h2 : D.fuse = -1) {B : List (Nm × FileS)} {k : Nm} {f : FileS} (hf : D.files = B ++ [(k, f)]) (hB : k ∉ B.map (·.1)) (hk : okName k = true) (data : List UInt8) :
    D.append k data = if D.most < (DiskS.total D.files : Int) + data.length then (6, D) else (0, { D with files := B ++ [(k, ⟨f.bytes ++ data, f.synced⟩)] }) := by
  have ha : D.find k = (f, 0) := by simp [DiskS.find, h1, hf, assoc_end f hB]
  unfold DiskS.append
  rw [ha, turn_live h2, hk, hf, aput_end _ _ hB]
  simp
theorem app_new {D : DiskS} (h1 : D.dead = false) (h2 : D.fuse = -1) {k : Nm} (hB : k ∉ D.files.map (·.1)) (hk : okName k = true) (hc : D.files.length < 40) (data : List UInt8) :
    D.append k data = if D.most < (DiskS.total D.files : Int) + data.length then (6, D) else (0, { D with files := D.files ++ [(k, ⟨data, 0⟩)] }) := by
  have ha : D.find k = (.none, 4) := by simp [DiskS.find, h1, assoc_no hB]
  unfold DiskS.append
  rw [ha, turn_live h2, hk, aput_no _ hB]
  have : ¬ (D.files.length : Int) = 40 := by omega
  simp [this]
theorem sync_end {D : DiskS} (h1 : D.dead = false) (h2 : D.fuse = -1) {B : List (Nm × FileS)} {k : Nm} {f : FileS} (hf : D.files = B ++ [(k, f)]) (hB : k ∉ B.map (·.1)) :
    D.sync k = (0, { D with files := B ++ [(k, ⟨f.bytes, f.bytes.length⟩)] }) := by
  have ha : D.find k = (f, 0) := by simp [DiskS.find, h1, hf, assoc_end f hB]
  unfold DiskS.sync DiskS.does
  rw [ha, turn_live h2, hf]
  dsimp only
  rw [aput_end _ _ hB]
  simp

/-! ### segments and their files -/
structure SD (S : List Seg) (D : DiskS) : Prop where
  ok : D.Ok
  dead : D.dead = false
  fuse : D.fuse = -1
  ne : S ≠ []
  cnt : S.length ≤ 20
  num : ∀ (i : Nat) (s : Seg), S[i]? = some s → s.number = (i : Int) + 1
  files : D.files.map (fun p => (p.1, (p.2.bytes.length : Int))) = S.map fun s => (segFile s, s.size)
theorem lastS_end (A : List Seg) (q : Seg) : lastS (A ++ [q]) = q := by
  have : ((((A ++ [q]).length : Nat) : Int) - 1).toNat = A.length := by rw [List.length_append]; simp
  unfold lastS; rw [this]; simp
theorem setLast_end (A : List Seg) (q r : Seg) : setLast (A ++ [q]) r = A ++ [r] := by
  have : ((((A ++ [q]).length : Nat) : Int) - 1).toNat = A.length := by rw [List.length_append]; simp
  unfold setLast; rw [this]; simp
theorem ne_end {α : Type} {S : List α} (h : S ≠ []) : ∃ A q, S = A ++ [q] := ⟨S.dropLast, S.getLast h, (List.dropLast_concat_getLast h).symm⟩
theorem SD.numEnd {A : List Seg} {q : Seg} {D : DiskS} (h : SD (A ++ [q]) D) : q.number = (A.length : Int) + 1 := h.num A.length q (by simp)
theorem segFile_notin {A : List Seg} (hA : ∀ (i : Nat) (s : Seg), A[i]? = some s → s.number = (i : Int) + 1) (hc : A.length ≤ 20) {q : Seg} (hq : q.number = (A.length : Int) + 1) : segFile q ∉ A.map segFile := by
  intro hm
  obtain ⟨s, hs, he⟩ := List.mem_map.1 hm
  obtain ⟨i, hi, rfl⟩ := List.getElem_of_mem hs
  have hn := hA i A[i] (by simp [hi])
  unfold segFile at he
  rw [hn, hq] at he
  have := segName_inj (by omega) (by omega) he
  omega
theorem segFile_ok {q : Seg} {n : Nat} (hq : q.number = (n : Int) + 1) (hn : n ≤ 20) : okName (segFile q) = true := segName_ok (by rw [hq]; omega)
theorem keys_of {S : List Seg} {l : List (Nm × FileS)} (h : l.map (fun p => (p.1, (p.2.bytes.length : Int))) = S.map fun s => (segFile s, s.size)) : l.map (·.1) = S.map segFile := by
  have := congrArg (List.map Prod.fst) h
  rw [List.map_map, List.map_map] at this
  exact this
theorem sync_ok_of {D : DiskS} (h : D.Ok) {B : List (Nm × FileS)} {k : Nm} {data : List UInt8} {E : DiskS} {k2 : Nm} (hE : (D.append k data).2.sync k2 = (0, E)) : E.Ok := by
  have := (h.append k data).sync k2
  rw [hE] at this; exact this
/-- Records laid down behind the last segment, which is there or is new. -/
theorem lay_live {S0 S : List Seg} {D : DiskS} (hS : SD S0 D) (hg : S = S0 ∨ (S = next S0 ∧ S0.length < 20)) (h : Hrd) (tell : Bool) (ps : List (List UInt8)) :
    (layE S D h tell ps = 6 ∧ layS S D h tell ps = S ∧ layD S D h tell ps = D ∧ D.most < (DiskS.total D.files : Int) + (layT S h tell ps).length) ∨
    (layE S D h tell ps = 0 ∧ layS S D h tell ps = grown S h tell ps ∧ SD (grown S h tell ps) (layD S D h tell ps) ∧ DiskS.total (layD S D h tell ps).files = DiskS.total D.files + (layT S h tell ps).length ∧ (layD S D h tell ps).most = D.most) := by
  generalize hT : layT S h tell ps = T
  have key : ∃ (A : List Seg) (q : Seg) (B : List (Nm × FileS)) (f0 : FileS), S = A ++ [q] ∧ A.length < 20 ∧ q.number = (A.length : Int) + 1 ∧ (∀ (i : Nat) (s : Seg), A[i]? = some s → s.number = (i : Int) + 1) ∧ B.map (fun p => (p.1, (p.2.bytes.length : Int))) = A.map (fun s => (segFile s, s.size)) ∧ segFile q ∉ B.map (·.1) ∧ (f0.bytes.length : Int) = q.size ∧ DiskS.total B + f0.bytes.length = DiskS.total D.files ∧
      D.append (segFile q) T = if D.most < (DiskS.total D.files : Int) + T.length then (6, D) else (0, { D with files := B ++ [(segFile q, ⟨f0.bytes ++ T, f0.synced⟩)] }) := by
    rcases hg with rfl | ⟨rfl, h20⟩
    · obtain ⟨A, q, rfl⟩ := ne_end hS.ne
      have hnum := hS.numEnd
      have hA : ∀ (i : Nat) (s : Seg), A[i]? = some s → s.number = (i : Int) + 1 := fun i s hs => hS.num i s (by
        rw [List.getElem?_append_left (by rcases Nat.lt_or_ge i A.length with h | h; exact h; rw [List.getElem?_eq_none h] at hs; cases hs)]; exact hs)
      have hc := hS.cnt
      rw [List.length_append] at hc
      simp only [List.length_cons, List.length_nil] at hc
      have hf := hS.files
      rw [List.map_append, List.map_eq_append_iff] at hf
      obtain ⟨B, C, hBC, hB, hC⟩ := hf
      rw [List.map_cons, List.map_nil, List.map_eq_cons_iff] at hC
      obtain ⟨⟨k, f⟩, C', rfl, hk, hC'⟩ := hC
      rw [List.map_eq_nil_iff] at hC'
      subst hC'
      simp only [Prod.mk.injEq] at hk
      obtain ⟨rfl, hsz⟩ := hk
      have hnot : segFile q ∉ B.map (·.1) := by rw [keys_of hB]; exact segFile_notin hA (by omega) hnum
      refine ⟨A, q, B, f, rfl, by omega, hnum, hA, hB, hnot, hsz, ?_, ?_⟩
      · rw [hBC, total_append]; simp [DiskS.total]
      · exact app_old hS.dead hS.fuse hBC hnot (segFile_ok hnum (by omega)) T
    · obtain ⟨A, q, rfl⟩ := ne_end hS.ne
      have hnum := hS.numEnd
      have hnew : (⟨(lastS (A ++ [q])).number + 1, 0, 0⟩ : Seg).number = ((A ++ [q]).length : Int) + 1 := by
        rw [lastS_end]; simp [hnum]
      have hnot : segFile ⟨(lastS (A ++ [q])).number + 1, 0, 0⟩ ∉ D.files.map (·.1) := by
        rw [keys_of hS.files]; exact segFile_notin hS.num (by omega) hnew
      refine ⟨A ++ [q], ⟨(lastS (A ++ [q])).number + 1, 0, 0⟩, D.files, .none, rfl, h20, hnew, hS.num, hS.files, hnot, rfl, rfl, ?_⟩
      have hl : D.files.length = (A ++ [q]).length := by have := congrArg List.length hS.files; simpa using this
      exact app_new hS.dead hS.fuse hnot (segFile_ok hnew (by omega)) (by omega) T
  obtain ⟨A, q, B, f0, rfl, hAl, hnum, hA, hB, hnot, hsz, htot, happ⟩ := key
  have hlast := lastS_end A q
  have hlA : layA (A ++ [q]) D h tell ps = if D.most < (DiskS.total D.files : Int) + T.length then (6, D) else (0, { D with files := B ++ [(segFile q, ⟨f0.bytes ++ T, f0.synced⟩)] }) := by
    unfold layA; rw [hT, hlast, happ]
  by_cases hful : D.most < (DiskS.total D.files : Int) + T.length
  · rw [if_pos hful] at hlA
    left
    refine ⟨?_, ?_, ?_, hful⟩ <;> simp [layE, layS, layD, hlA]
  · rw [if_neg hful] at hlA
    right
    have hsync := sync_end (D := { D with files := B ++ [(segFile q, ⟨f0.bytes ++ T, f0.synced⟩)] }) hS.dead hS.fuse rfl hnot
    have hD : layD (A ++ [q]) D h tell ps = { D with files := B ++ [(segFile q, ⟨f0.bytes ++ T, (f0.bytes ++ T).length⟩)] } := by
      unfold layD; rw [hlA, hlast]; simp only [ne_eq, not_true, if_false]; rw [hsync]
    have hG : grown (A ++ [q]) h tell ps = A ++ [{ q with size := q.size + T.length }] := by
      unfold grown; rw [hT, hlast, setLast_end]
    refine ⟨?_, ?_, ?_, ?_, ?_⟩
    · unfold layE; rw [hlA, hlast]; simp only [ne_eq, not_true, if_false]; rw [hsync]
    · unfold layS; rw [hlA]; simp
    · rw [hG]
      have hok := (hS.ok.append (segFile q) T).sync (segFile q)
      rw [happ, if_neg hful, hsync] at hok
      rw [hD]
      refine { ok := hok, dead := hS.dead, fuse := hS.fuse, ne := by simp, cnt := by simp; omega, num := fun i s hs => ?_, files := ?_ }
      · rcases Nat.lt_or_ge i A.length with hi | hi
        · rw [List.getElem?_append_left hi] at hs; exact hA i s hs
        · rw [List.getElem?_append_right hi] at hs
          rcases Nat.eq_or_lt_of_le hi with he | hlt
          · rw [← he] at hs; simp at hs; subst hs; rw [← he]; exact hnum
          · rw [List.getElem?_eq_none (by simp; omega)] at hs; cases hs
      · simp only [List.map_append, hB, List.map_cons, List.map_nil, List.append_cancel_left_eq, List.cons.injEq, and_true, Prod.mk.injEq]
        refine ⟨rfl, ?_⟩
        rw [List.length_append]; omega
    · rw [hD, ← htot]; dsimp only; rw [total_append, total_cons]; simp only [List.length_append, DiskS.total, List.map_nil, List.sum_nil]; omega
    · rw [hD]
theorem frames_pos {ps : List (List UInt8)} (h : ps ≠ []) : 0 < (frames ps).length := by
  cases ps with
  | nil => exact absurd rfl h
  | cons p ps => simp only [frames, List.flatMap_cons, List.length_append, frame_length]; omega
end Go.Proofs.YtaeefjcbmkiiaaaGreatDoor
