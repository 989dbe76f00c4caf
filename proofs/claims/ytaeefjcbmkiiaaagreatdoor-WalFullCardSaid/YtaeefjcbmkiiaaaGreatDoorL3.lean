/- A log that is begun, and chapter 3's examples: plain. -/
import Derived.Test.YtaeefjcbmkiiaaaGreatDoorL2
namespace Go.Proofs.YtaeefjcbmkiiaaaGreatDoor
open Go Sl
set_option linter.unusedVariables false
theorem told_len (S : List Seg) {h : Hrd} (hh : h.In) (tell : Bool) (ps : List (List UInt8)) : (layT S h tell ps).length ≤ 38 + (frames ps).length := by
  have := hardText_len hh
  unfold layT told
  split
  · simp only [frames, List.flatMap_cons, List.length_append, frame_length]; omega
  · omega
theorem ents_len {l : List Ent} {n : Nat} (hn : n ≤ 60000) (h : ∀ e ∈ l, e.In ∧ e.data.length ≤ n) : (frames (l.map entText)).length ≤ l.length * (58 + n) := by
  induction l with
  | nil => simp [frames]
  | cons e l ih =>
    have h1 := ih fun x hx => h x (List.mem_cons_of_mem _ hx)
    have h2 := h e (List.mem_cons_self ..)
    have h3 := entText_len h2.1 (by omega)
    simp only [List.map_cons, frames, List.flatMap_cons, List.length_append, frame_length, List.length_cons] at h1 ⊢
    rw [Nat.succ_mul]; omega
/-- The disk and the log of a log that is begun. -/
def disk0 (most : Int) : DiskS := layD [⟨1, 0, 0⟩] (DiskS.new most) ⟨0, 0⟩ true []
def log0 (most : Int) : LogS := ⟨⟨0, 0⟩, [], layS [⟨1, 0, 0⟩] (DiskS.new most) ⟨0, 0⟩ true []⟩
theorem hrd0 : (⟨0, 0⟩ : Hrd).In := ⟨by decide, by decide⟩
theorem open_live {most : Int} (h0 : 100 ≤ most) (h1 : most ≤ 10000000) :
    layE [⟨1, 0, 0⟩] (DiskS.new most) ⟨0, 0⟩ true [] = 0 ∧ Live (log0 most) (disk0 most) 0 ∧ DiskS.total (disk0 most).files ≤ 38 ∧ (disk0 most).most = most ∧ (log0 most).segs = [⟨1, (layT [⟨1, 0, 0⟩] ⟨0, 0⟩ true []).length, 0⟩] := by
  have hlen : (layT [⟨1, 0, 0⟩] ⟨0, 0⟩ true []).length ≤ 38 := by have := told_len [⟨1, 0, 0⟩] hrd0 true []; simpa [frames] using this
  have hok0 : (DiskS.new most).Ok := DiskS.Ok.new (by omega) h1
  have hlast : lastS [⟨1, 0, 0⟩] = ⟨1, 0, 0⟩ := rfl
  have hk : okName (segFile ⟨1, 0, 0⟩) = true := segName_ok (by decide)
  generalize hT : layT [⟨1, 0, 0⟩] ⟨0, 0⟩ true [] = T at hlen ⊢
  have happ : (DiskS.new most).append (segFile ⟨1, 0, 0⟩) T = (0, { DiskS.new most with files := [(segFile ⟨1, 0, 0⟩, ⟨T, 0⟩)] }) := by
    have := app_new (D := DiskS.new most) rfl rfl (k := segFile ⟨1, 0, 0⟩) (by simp [DiskS.new]) hk (by simp [DiskS.new]) T
    rw [this, if_neg]
    · rfl
    · show ¬ most < ((0 : Nat) : Int) + T.length; omega
  have hA : layA [⟨1, 0, 0⟩] (DiskS.new most) ⟨0, 0⟩ true [] = (0, { DiskS.new most with files := [(segFile ⟨1, 0, 0⟩, ⟨T, 0⟩)] }) := by unfold layA; rw [hlast, hT, happ]
  have hsync := sync_end (D := { DiskS.new most with files := [(segFile ⟨1, 0, 0⟩, ⟨T, 0⟩)] }) rfl rfl (B := []) (k := segFile ⟨1, 0, 0⟩) (f := ⟨T, 0⟩) rfl (by simp)
  have hD : disk0 most = { DiskS.new most with files := [(segFile ⟨1, 0, 0⟩, ⟨T, T.length⟩)] } := by
    unfold disk0 layD; rw [hA, hlast]; simp only [ne_eq, not_true, if_false]; rw [hsync]; rfl
  have hS : layS [⟨1, 0, 0⟩] (DiskS.new most) ⟨0, 0⟩ true [] = [⟨1, T.length, 0⟩] := by
    unfold layS; rw [hA]; simp only [ne_eq, not_true, if_false]
    unfold grown setLast; rw [hT, hlast]; simp
  refine ⟨?_, ?_, ?_, ?_, hS⟩
  · unfold layE; rw [hA, hlast]; simp only [ne_eq, not_true, if_false]; rw [hsync]
  · have hok := (hok0.append (segFile ⟨1, 0, 0⟩) T).sync (segFile ⟨1, 0, 0⟩)
    rw [happ, hsync] at hok
    refine { sd := ?_, rise := ⟨fun i hi => absurd hi (by simp [log0]), fun x hx => by simp [log0] at hx, fun x hx => by simp [log0] at hx⟩, good := fun x hx => by simp [log0] at hx, len := Nat.le_refl _, hin := hrd0, h0 := ⟨Int.le_refl _, Int.le_refl _⟩ }
    show SD (layS _ _ _ _ _) _
    rw [hS, hD]
    exact { ok := hok, dead := rfl, fuse := rfl, ne := by simp, cnt := by simp, num := fun i s hs => by
              cases i with
              | zero => simp at hs; subst hs; rfl
              | succ i => simp at hs
            files := by simp [segFile] }
  · rw [hD]; simp [DiskS.total]; omega
  · rw [hD]; rfl
/-! ### the examples -/
def ex1 : Ent := ⟨1, 1, 2, [97]⟩
def ex2 : Ent := ⟨2, 1, 2, [98]⟩
def ex3 : Ent := ⟨2, 1, 2, [99]⟩
def ex7 : Ent := ⟨7, 2, 2, [120]⟩
def exH : Hrd := ⟨1, 2⟩
theorem exH_in : exH.In := ⟨by decide, by decide⟩
theorem ex_in {l : List Ent} (h : l = [ex1, ex2] ∨ l = [ex3] ∨ l = [ex7]) : (∀ e ∈ l, e.In ∧ goodI e.index) ∧ (∀ e ∈ l, e.right = true) ∧ l ≠ [] ∧ ∀ e ∈ l, e.In ∧ e.data.length ≤ 1 := by
  have hi : ex1.In ∧ ex2.In ∧ ex3.In ∧ ex7.In := ⟨⟨by decide, by decide, by decide⟩, ⟨by decide, by decide, by decide⟩, ⟨by decide, by decide, by decide⟩, ⟨by decide, by decide, by decide⟩⟩
  have hg : goodI ex1.index ∧ goodI ex2.index ∧ goodI ex3.index ∧ goodI ex7.index := by unfold goodI; decide
  rcases h with rfl | rfl | rfl
  · refine ⟨?_, ?_, by simp, ?_⟩ <;> intro e he <;> simp only [List.mem_cons, List.not_mem_nil, or_false] at he <;> rcases he with rfl | rfl <;> first | exact ⟨hi.1, hg.1⟩ | exact ⟨hi.2.1, hg.2.1⟩ | decide | exact ⟨hi.1, by decide⟩ | exact ⟨hi.2.1, by decide⟩
  · refine ⟨?_, ?_, by simp, ?_⟩ <;> intro e he <;> simp only [List.mem_cons, List.not_mem_nil, or_false] at he <;> subst he <;> first | exact ⟨hi.2.2.1, hg.2.2.1⟩ | decide | exact ⟨hi.2.2.1, by decide⟩
  · refine ⟨?_, ?_, by simp, ?_⟩ <;> intro e he <;> simp only [List.mem_cons, List.not_mem_nil, or_false] at he <;> subst he <;> first | exact ⟨hi.2.2.2, hg.2.2.2⟩ | decide | exact ⟨hi.2.2.2, by decide⟩
/-- A save for which there is room. -/
theorem save_fits {W : LogS} {D : DiskS} {n : Nat} (hW : Live W D n) (h : Hrd) (hh : h.In) (h0 : 0 ≤ h.term ∧ 0 ≤ h.vote) (l : List Ent) (hl : ∀ e ∈ l, e.In ∧ goodI e.index) (hr : ∀ e ∈ l, e.right = true) (hn : l ≠ []) (hd : ∀ e ∈ l, e.In ∧ e.data.length ≤ 1) (hf : (DiskS.total D.files : Int) + 38 + l.length * 59 ≤ D.most) :
    (W.save D h l).1 = 0 ∧ Live (W.save D h l).2.1 (W.save D h l).2.2 (n + l.length) ∧ (W.save D h l).2.1.ents = l.foldl putE W.ents ∧ (W.save D h l).2.1.hard = h ∧ DiskS.total (W.save D h l).2.2.files ≤ DiskS.total D.files + 38 + l.length * 59 ∧ (W.save D h l).2.2.most = D.most := by
  have h1 := told_len (begun W.segs) hh (decide (h ≠ W.hard)) (l.map entText)
  have h2 := ents_len (n := 1) (by decide) hd
  rcases save_live hW h hh h0 l hl hr hn with ⟨_, _, c⟩ | ⟨a, b, c, d, e, _, f⟩
  · exfalso; omega
  · exact ⟨a, b, c, d, by omega, f⟩
theorem reset_fits {W : LogS} {D : DiskS} {n : Nat} (hW : Live W D n) (hf : (DiskS.total D.files : Int) + 56 ≤ D.most) : (W.reset D).1 = 0 ∧ (W.reset D).2.1.ents = [] := by
  have h1 := told_len W.segs hW.hin false [resetText]
  have h2 := resetText_len
  have h3 : (frames [resetText]).length = 8 + resetText.length := by simp [frames, frame_length]
  unfold LogS.reset
  rcases lay_live hW.sd (.inl rfl) W.hard false [resetText] with ⟨a, b, c, d⟩ | ⟨a, b, c, d, e⟩
  · exfalso; omega
  · rw [a, if_neg (by decide)]; exact ⟨rfl, rfl⟩
/-- The examples' worlds, one behind another. -/
abbrev xw (n : Nat) : LogS × DiskS := match n with
  | 0 => (log0 10000, disk0 10000)
  | 1 => ((log0 10000).save (disk0 10000) exH [ex1, ex2]).2
  | 2 => (((log0 10000).save (disk0 10000) exH [ex1, ex2]).2.1.save ((log0 10000).save (disk0 10000) exH [ex1, ex2]).2.2 exH [ex3]).2
  | _ => ((((log0 10000).save (disk0 10000) exH [ex1, ex2]).2.1.save ((log0 10000).save (disk0 10000) exH [ex1, ex2]).2.2 exH [ex3]).2.1.save (((log0 10000).save (disk0 10000) exH [ex1, ex2]).2.1.save ((log0 10000).save (disk0 10000) exH [ex1, ex2]).2.2 exH [ex3]).2.2 exH [ex7]).2
end Go.Proofs.YtaeefjcbmkiiaaaGreatDoor
