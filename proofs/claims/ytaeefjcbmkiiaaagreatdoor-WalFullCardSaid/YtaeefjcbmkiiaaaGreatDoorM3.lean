/- The log: what is laid down, saved, forgotten; what is so on a disk whose power stays: plain. -/
import Derived.Test.YtaeefjcbmkiiaaaGreatDoorM2
namespace Go.Proofs.YtaeefjcbmkiiaaaGreatDoor
open Go Sl
set_option linter.unusedVariables false

def frames (ps : List (List UInt8)) : List UInt8 := ps.flatMap frame
def segFile (s : Seg) : Nm := segName s.number.toNat
def told (S : List Seg) (h : Hrd) (tell : Bool) (ps : List (List UInt8)) : List (List UInt8) := if tell = true ∨ (lastS S).size = 0 then hardText h :: ps else ps
def layT (S : List Seg) (h : Hrd) (tell : Bool) (ps : List (List UInt8)) : List UInt8 := frames (told S h tell ps)
def layA (S : List Seg) (D : DiskS) (h : Hrd) (tell : Bool) (ps : List (List UInt8)) : Int × DiskS := D.append (segFile (lastS S)) (layT S h tell ps)
def grown (S : List Seg) (h : Hrd) (tell : Bool) (ps : List (List UInt8)) : List Seg := setLast S { lastS S with size := (lastS S).size + (layT S h tell ps).length }
/-- Records laid down: the error, the segments, the disk. -/
def layE (S : List Seg) (D : DiskS) (h : Hrd) (tell : Bool) (ps : List (List UInt8)) : Int := if (layA S D h tell ps).1 ≠ 0 then (layA S D h tell ps).1 else ((layA S D h tell ps).2.sync (segFile (lastS S))).1
def layS (S : List Seg) (D : DiskS) (h : Hrd) (tell : Bool) (ps : List (List UInt8)) : List Seg := if (layA S D h tell ps).1 ≠ 0 then S else grown S h tell ps
def layD (S : List Seg) (D : DiskS) (h : Hrd) (tell : Bool) (ps : List (List UInt8)) : DiskS := if (layA S D h tell ps).1 ≠ 0 then (layA S D h tell ps).2 else ((layA S D h tell ps).2.sync (segFile (lastS S))).2
def more (S : List Seg) : Prop := 2000 ≤ (lastS S).size ∧ (S.length : Int) < 20
instance (S : List Seg) : Decidable (more S) := by unfold more; infer_instance
def next (S : List Seg) : List Seg := S ++ [⟨(lastS S).number + 1, 0, 0⟩]
def begun (S : List Seg) : List Seg := if more S then next S else S
/-- The segments that are there, if the last one could not be begun. -/
def there (D : DiskS) (S0 S : List Seg) : List Seg := if segFile (lastS S) ∈ D.files.map (·.1) then S else S0
def puts (W : LogS) (l : List Ent) : LogS := l.foldl LogS.put W
/-- What a save comes to: the error, the log, the disk. -/
def LogS.save (W : LogS) (D : DiskS) (h : Hrd) (l : List Ent) : Int × LogS × DiskS :=
  if h.term < 0 ∨ h.vote < 0 ∨ (l.any fun e => !e.right) = true then (1, W, D)
  else if l = [] ∧ h = W.hard then (0, W, D)
  else if layE (begun W.segs) D h (decide (h ≠ W.hard)) (l.map entText) ≠ 0 then
    (layE (begun W.segs) D h (decide (h ≠ W.hard)) (l.map entText), { W with segs := if more W.segs then there (layD (begun W.segs) D h (decide (h ≠ W.hard)) (l.map entText)) W.segs (layS (begun W.segs) D h (decide (h ≠ W.hard)) (l.map entText)) else layS (begun W.segs) D h (decide (h ≠ W.hard)) (l.map entText) }, layD (begun W.segs) D h (decide (h ≠ W.hard)) (l.map entText))
  else (0, puts { W with hard := h, segs := layS (begun W.segs) D h (decide (h ≠ W.hard)) (l.map entText) } l, layD (begun W.segs) D h (decide (h ≠ W.hard)) (l.map entText))
def LogS.reset (W : LogS) (D : DiskS) : Int × LogS × DiskS :=
  if layE W.segs D W.hard false [resetText] ≠ 0 then (layE W.segs D W.hard false [resetText], { W with segs := layS W.segs D W.hard false [resetText] }, layD W.segs D W.hard false [resetText])
  else (0, { W with segs := layS W.segs D W.hard false [resetText], ents := [] }, layD W.segs D W.hard false [resetText])

/-! ### names of segments -/
def sn (n : Nat) : Nm := if n < 10 then [119, UInt8.ofNat (48 + n)] else [119, UInt8.ofNat (48 + n / 10), UInt8.ofNat (48 + n % 10)]
theorem segName_sn {n : Nat} (h : n < 100) : segName n = sn n := by
  unfold segName sn
  split
  · rw [Lib.decDigits_one (by assumption)]
  · rw [Lib.decDigits_two (by assumption) h]
def snVal (s : Nm) : Nat := match s with | [_, a] => a.toNat - 48 | [_, a, b] => (a.toNat - 48) * 10 + (b.toNat - 48) | _ => 0
theorem snVal_all : ∀ n : Fin 100, snVal (sn n.val) = n.val := by decide +kernel
theorem sn_ok : ∀ n : Fin 100, okName (sn n.val) = true := by decide +kernel
theorem segName_inj {a b : Nat} (ha : a < 100) (hb : b < 100) (h : segName a = segName b) : a = b := by
  rw [segName_sn ha, segName_sn hb] at h
  have := congrArg snVal h
  rwa [snVal_all ⟨a, ha⟩, snVal_all ⟨b, hb⟩] at this
theorem segName_ok {a : Nat} (ha : a < 100) : okName (segName a) = true := by
  rw [segName_sn ha]; exact sn_ok ⟨a, ha⟩
theorem segName_le {a : Nat} (ha : a < 100) : (segName a).length ≤ 24 := by
  have := segName_ok ha
  simp only [okName, Bool.and_eq_true, decide_eq_true_eq] at this
  exact this.1.2

/-! ### a disk whose power stays -/
theorem assoc_no {κ α : Type} [DecidableEq κ] {l : List (κ × α)} {k : κ} (h : k ∉ l.map (·.1)) : assoc l k = none := by
  cases ha : assoc l k with
  | none => rfl
  | some x => exact absurd (List.mem_map.2 ⟨_, assoc_mem ha, rfl⟩) h
theorem assoc_end {κ α : Type} [DecidableEq κ] {l : List (κ × α)} {k : κ} (x : α) (h : k ∉ l.map (·.1)) : assoc (l ++ [(k, x)]) k = some x := by
  induction l with
  | nil => simp [assoc]
  | cons p l ih =>
    obtain ⟨k', y⟩ := p
    simp only [List.map_cons, List.mem_cons, not_or] at h
    rw [List.cons_append, assoc, if_neg h.1]
    exact ih h.2
theorem aput_end {κ α : Type} [DecidableEq κ] {l : List (κ × α)} {k : κ} (x y : α) (h : k ∉ l.map (·.1)) : aput (l ++ [(k, x)]) k y = l ++ [(k, y)] := by
  induction l with
  | nil => simp [aput]
  | cons p l ih =>
    obtain ⟨k', z⟩ := p
    simp only [List.map_cons, List.mem_cons, not_or] at h
    rw [List.cons_append, aput, if_neg h.1, ih h.2, List.cons_append]
theorem aput_no {κ α : Type} [DecidableEq κ] {l : List (κ × α)} {k : κ} (y : α) (h : k ∉ l.map (·.1)) : aput l k y = l ++ [(k, y)] := by
  induction l with
  | nil => simp [aput]
  | cons p l ih =>
    obtain ⟨k', z⟩ := p
    simp only [List.map_cons, List.mem_cons, not_or] at h
    rw [aput, if_neg h.1, ih h.2, List.cons_append]
theorem turn_live {D : DiskS} (h1 : D.fuse = -1) : D.turn = (0, D) := by
  obtain ⟨a, b, c, d⟩ := D
  dsimp only at h1
  subst h1
  rfl
theorem app_old {D : DiskS} (h1 : D.dead = false) (h2 : D.fuse = -1) {B : List (Nm × FileS)} {k : Nm} {f : FileS} (hf : D.files = B ++ [(k, f)]) (hB : k ∉ B.map (·.1)) (hk : okName k = true) (data : List UInt8) :
    D.append k data = if D.most < (DiskS.total D.files : Int) + data.length then (6, D) else (0, { D with files := B ++ [(k, ⟨f.bytes ++ data, f.synced⟩)] }) := by
  have ha : D.find k = (f, 0) := by simp [DiskS.find, h1, hf, assoc_end f hB]
  unfold DiskS.append
  rw [ha, turn_live h2, hk, hf, aput_end _ _ hB]
  simp
theorem app_new {D : DiskS} (h1 : D.dead = false) (h2 : D.fuse = -1) {k : Nm} (hB : k ∉ D.files.map (·.1)) (hk : okName k = true) (hc : D.files.length < 40) (data : List UInt8) :
    D.append k data = if D.most < (DiskS.total D.files : Int) + data.length then (6, D) else (0, { D with files := D.files ++ [(k, ⟨data, 0⟩)] }) := by
  have ha : D.find k = (.none, 4) := by simp [DiskS.find, h1, assoc_no hB]
  unfold DiskS.append
  rw [ha, turn_live h2, hk, aput_no _ hB]
  have : ¬ (D.files.length : Int) = 40 := by omega
  simp [this]
theorem sync_end {D : DiskS} (h1 : D.dead = false) (h2 : D.fuse = -1) {B : List (Nm × FileS)} {k : Nm} {f : FileS} (hf : D.files = B ++ [(k, f)]) (hB : k ∉ B.map (·.1)) :
    D.sync k = (0, { D with files := B ++ [(k, ⟨f.bytes, f.bytes.length⟩)] }) := by
  have ha : D.find k = (f, 0) := by simp [DiskS.find, h1, hf, assoc_end f hB]
  unfold DiskS.sync DiskS.does
  rw [ha, turn_live h2, hf]
  dsimp only
  rw [aput_end _ _ hB]
  simp

/-! ### segments and their files -/
structure SD (S : List Seg) (D : DiskS) : Prop where
  ok : D.Ok
  dead : D.dead = false
  fuse : D.fuse = -1
  ne : S ≠ []
  cnt : S.length ≤ 20
  num : ∀ (i : Nat) (s : Seg), S[i]? = some s → s.number = (i : Int) + 1
  files : D.files.map (fun p => (p.1, (p.2.bytes.length : Int))) = S.map fun s => (segFile s, s.size)
theorem lastS_end (A : List Seg) (q : Seg) : lastS (A ++ [q]) = q := by
  have : ((((A ++ [q]).length : Nat) : Int) - 1).toNat = A.length := by rw [List.length_append]; simp
  unfold lastS; rw [this]; simp
theorem setLast_end (A : List Seg) (q r : Seg) : setLast (A ++ [q]) r = A ++ [r] := by
  have : ((((A ++ [q]).length : Nat) : Int) - 1).toNat = A.length := by rw [List.length_append]; simp
  unfold setLast; rw [this]; simp
theorem ne_end {α : Type} {S : List α} (h : S ≠ []) : ∃ A q, S = A ++ [q] := ⟨S.dropLast, S.getLast h, (List.dropLast_concat_getLast h).symm⟩
theorem SD.numEnd {A : List Seg} {q : Seg} {D : DiskS} (h : SD (A ++ [q]) D) : q.number = (A.length : Int) + 1 := h.num A.length q (by simp)
theorem segFile_notin {A : List Seg} (hA : ∀ (i : Nat) (s : Seg), A[i]? = some s → s.number = (i : Int) + 1) (hc : A.length ≤ 20) {q : Seg} (hq : q.number = (A.length : Int) + 1) : segFile q ∉ A.map segFile := by
  intro hm
  obtain ⟨s, hs, he⟩ := List.mem_map.1 hm
  obtain ⟨i, hi, rfl⟩ := List.getElem_of_mem hs
  have hn := hA i A[i] (by simp [hi])
  unfold segFile at he
  rw [hn, hq] at he
  have := segName_inj (by omega) (by omega) he
  omega
theorem segFile_ok {q : Seg} {n : Nat} (hq : q.number = (n : Int) + 1) (hn : n ≤ 20) : okName (segFile q) = true := segName_ok (by rw [hq]; omega)
theorem keys_of {S : List Seg} {l : List (Nm × FileS)} (h : l.map (fun p => (p.1, (p.2.bytes.length : Int))) = S.map fun s => (segFile s, s.size)) : l.map (·.1) = S.map segFile := by
  have := congrArg (List.map Prod.fst) h
  rw [List.map_map, List.map_map] at this
  exact this
theorem sync_ok_of {D : DiskS} (h : D.Ok) {B : List (Nm × FileS)} {k : Nm} {data : List UInt8} {E : DiskS} {k2 : Nm} (hE : (D.append k data).2.sync k2 = (0, E)) : E.Ok := by
  have := (h.append k data).sync k2
  rw [hE] at this; exact this
/-- Records laid down behind the last segment, which is there or is new. -/
theorem lay_live {S0 S : List Seg} {D : DiskS} (hS : SD S0 D) (hg : S = S0 ∨ (S = next S0 ∧ S0.length < 20)) (h : Hrd) (tell : Bool) (ps : List (List UInt8)) :
    (layE S D h tell ps = 6 ∧ layS S D h tell ps = S ∧ layD S D h tell ps = D ∧ D.most < (DiskS.total D.files : Int) + (layT S h tell ps).length) ∨
    (layE S D h tell ps = 0 ∧ layS S D h tell ps = grown S h tell ps ∧ SD (grown S h tell ps) (layD S D h tell ps) ∧ DiskS.total (layD S D h tell ps).files = DiskS.total D.files + (layT S h tell ps).length ∧ (layD S D h tell ps).most = D.most) := by
  generalize hT : layT S h tell ps = T
  have key : ∃ (A : List Seg) (q : Seg) (B : List (Nm × FileS)) (f0 : FileS), S = A ++ [q] ∧ A.length < 20 ∧ q.number = (A.length : Int) + 1 ∧ (∀ (i : Nat) (s : Seg), A[i]? = some s → s.number = (i : Int) + 1) ∧ B.map (fun p => (p.1, (p.2.bytes.length : Int))) = A.map (fun s => (segFile s, s.size)) ∧ segFile q ∉ B.map (·.1) ∧ (f0.bytes.length : Int) = q.size ∧ DiskS.total B + f0.bytes.length = DiskS.total D.files ∧
      D.append (segFile q) T = if D.most < (DiskS.total D.files : Int) + T.length then (6, D) else (0, { D with files := B ++ [(segFile q, ⟨f0.bytes ++ T, f0.synced⟩)] }) := by
    rcases hg with rfl | ⟨rfl, h20⟩
    · obtain ⟨A, q, rfl⟩ := ne_end hS.ne
      have hnum := hS.numEnd
      have hA : ∀ (i : Nat) (s : Seg), A[i]? = some s → s.number = (i : Int) + 1 := fun i s hs => hS.num i s (by
        rw [List.getElem?_append_left (by rcases Nat.lt_or_ge i A.length with h | h; exact h; rw [List.getElem?_eq_none h] at hs; cases hs)]; exact hs)
      have hc := hS.cnt
      rw [List.length_append] at hc
      simp only [List.length_cons, List.length_nil] at hc
      have hf := hS.files
      rw [List.map_append, List.map_eq_append_iff] at hf
      obtain ⟨B, C, hBC, hB, hC⟩ := hf
      rw [List.map_cons, List.map_nil, List.map_eq_cons_iff] at hC
      obtain ⟨⟨k, f⟩, C', rfl, hk, hC'⟩ := hC
      rw [List.map_eq_nil_iff] at hC'
      subst hC'
      simp only [Prod.mk.injEq] at hk
      obtain ⟨rfl, hsz⟩ := hk
      have hnot : segFile q ∉ B.map (·.1) := by rw [keys_of hB]; exact segFile_notin hA (by omega) hnum
      refine ⟨A, q, B, f, rfl, by omega, hnum, hA, hB, hnot, hsz, ?_, ?_⟩
      · rw [hBC, total_append]; simp [DiskS.total]
      · exact app_old hS.dead hS.fuse hBC hnot (segFile_ok hnum (by omega)) T
    · obtain ⟨A, q, rfl⟩ := ne_end hS.ne
      have hnum := hS.numEnd
      have hnew : (⟨(lastS (A ++ [q])).number + 1, 0, 0⟩ : Seg).number = ((A ++ [q]).length : Int) + 1 := by
        rw [lastS_end]; simp [hnum]
      have hnot : segFile ⟨(lastS (A ++ [q])).number + 1, 0, 0⟩ ∉ D.files.map (·.1) := by
        rw [keys_of hS.files]; exact segFile_notin hS.num (by omega) hnew
      refine ⟨A ++ [q], ⟨(lastS (A ++ [q])).number + 1, 0, 0⟩, D.files, .none, rfl, h20, hnew, hS.num, hS.files, hnot, rfl, rfl, ?_⟩
      have hl : D.files.length = (A ++ [q]).length := by have := congrArg List.length hS.files; simpa using this
      exact app_new hS.dead hS.fuse hnot (segFile_ok hnew (by omega)) (by omega) T
  obtain ⟨A, q, B, f0, rfl, hAl, hnum, hA, hB, hnot, hsz, htot, happ⟩ := key
  have hlast := lastS_end A q
  have hlA : layA (A ++ [q]) D h tell ps = if D.most < (DiskS.total D.files : Int) + T.length then (6, D) else (0, { D with files := B ++ [(segFile q, ⟨f0.bytes ++ T, f0.synced⟩)] }) := by
    unfold layA; rw [hT, hlast, happ]
  by_cases hful : D.most < (DiskS.total D.files : Int) + T.length
  · rw [if_pos hful] at hlA
    left
    refine ⟨?_, ?_, ?_, hful⟩ <;> simp [layE, layS, layD, hlA]
  · rw [if_neg hful] at hlA
    right
    have hsync := sync_end (D := { D with files := B ++ [(segFile q, ⟨f0.bytes ++ T, f0.synced⟩)] }) hS.dead hS.fuse rfl hnot
    have hD : layD (A ++ [q]) D h tell ps = { D with files := B ++ [(segFile q, ⟨f0.bytes ++ T, (f0.bytes ++ T).length⟩)] } := by
      unfold layD; rw [hlA, hlast]; simp only [ne_eq, not_true, if_false]; rw [hsync]
    have hG : grown (A ++ [q]) h tell ps = A ++ [{ q with size := q.size + T.length }] := by
      unfold grown; rw [hT, hlast, setLast_end]
    refine ⟨?_, ?_, ?_, ?_, ?_⟩
    · unfold layE; rw [hlA, hlast]; simp only [ne_eq, not_true, if_false]; rw [hsync]
    · unfold layS; rw [hlA]; simp
    · rw [hG]
      have hok := (hS.ok.append (segFile q) T).sync (segFile q)
      rw [happ, if_neg hful, hsync] at hok
      rw [hD]
      refine { ok := hok, dead := hS.dead, fuse := hS.fuse, ne := by simp, cnt := by simp; omega, num := fun i s hs => ?_, files := ?_ }
      · rcases Nat.lt_or_ge i A.length with hi | hi
        · rw [List.getElem?_append_left hi] at hs; exact hA i s hs
        · rw [List.getElem?_append_right hi] at hs
          rcases Nat.eq_or_lt_of_le hi with he | hlt
          · rw [← he] at hs; simp at hs; subst hs; rw [← he]; exact hnum
          · rw [List.getElem?_eq_none (by simp; omega)] at hs; cases hs
      · simp only [List.map_append, hB, List.map_cons, List.map_nil, List.append_cancel_left_eq, List.cons.injEq, and_true, Prod.mk.injEq]
        refine ⟨rfl, ?_⟩
        rw [List.length_append]; omega
    · rw [hD, ← htot]; dsimp only; rw [total_append, total_cons]; simp only [List.length_append, DiskS.total, List.map_nil, List.sum_nil]; omega
    · rw [hD]
theorem frames_pos {ps : List (List UInt8)} (h : ps ≠ []) : 0 < (frames ps).length := by
  cases ps with
  | nil => exact absurd rfl h
  | cons p ps => simp only [frames, List.flatMap_cons, List.length_append, frame_length]; omega
end Go.Proofs.YtaeefjcbmkiiaaaGreatDoor
