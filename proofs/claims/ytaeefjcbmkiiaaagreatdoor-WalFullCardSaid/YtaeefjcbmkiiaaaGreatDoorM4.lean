/- The log on a disk whose power stays: what is always so; saves and resets: plain. -/
import Derived.Test.YtaeefjcbmkiiaaaGreatDoorM3
namespace Go.Proofs.YtaeefjcbmkiiaaaGreatDoor
open Go Sl
set_option linter.unusedVariables false

/-- An index that these acts bear. -/
def goodI (n : Int) : Prop := n ≤ 33 ∨ n % 37 = 0
theorem SD.setTop {S : List Seg} {D : DiskS} (h : SD S D) (i : Int) : SD (setTop S i) D := by
  obtain ⟨A, q, rfl⟩ := ne_end h.ne
  have e : Go.Proofs.YtaeefjcbmkiiaaaGreatDoor.setTop (A ++ [q]) i = A ++ [{ q with top := max q.top i }] := by unfold Go.Proofs.YtaeefjcbmkiiaaaGreatDoor.setTop; rw [lastS_end, setLast_end]
  rw [e]
  refine { ok := h.ok, dead := h.dead, fuse := h.fuse, ne := by simp, cnt := by have := h.cnt; simpa using this, num := fun j s hs => ?_, files := by rw [h.files]; simp [segFile] }
  rcases Nat.lt_or_ge j A.length with hi | hi
  · exact h.num j s (by rw [List.getElem?_append_left hi] at hs ⊢; exact hs)
  · rw [List.getElem?_append_right hi] at hs
    rcases Nat.eq_or_lt_of_le hi with he | hlt
    · rw [← he] at hs; simp at hs; subst hs; rw [← he]; exact h.numEnd
    · rw [List.getElem?_eq_none (by simp; omega)] at hs; cases hs
theorem mem_total {p : Nm × FileS} {l : List (Nm × FileS)} (h : p ∈ l) : p.2.bytes.length ≤ DiskS.total l := by
  induction l with
  | nil => cases h
  | cons q l ih =>
    rw [total_cons]
    rcases List.mem_cons.1 h with rfl | h
    · exact Nat.le_add_right _ _
    · have := ih h; omega
theorem SD.sizes {S : List Seg} {D : DiskS} (h : SD S D) : ∀ s ∈ S, 0 ≤ s.size ∧ s.size ≤ D.most := by
  intro s hs
  have : (segFile s, s.size) ∈ D.files.map fun p => (p.1, (p.2.bytes.length : Int)) := by rw [h.files]; exact List.mem_map.2 ⟨s, hs, rfl⟩
  obtain ⟨p, hp, he⟩ := List.mem_map.1 this
  have h1 : (p.2.bytes.length : Int) = s.size := congrArg Prod.snd he
  have h2 : p.2.bytes.length ≤ DiskS.total D.files := mem_total hp
  have := h.ok.sz
  omega
theorem lastS_mem {S : List Seg} (h : S ≠ []) : lastS S ∈ S := by
  obtain ⟨A, q, rfl⟩ := ne_end h
  rw [lastS_end]; simp
theorem SD.num_le {S : List Seg} {D : DiskS} (h : SD S D) : ∀ s ∈ S, 1 ≤ s.number ∧ s.number ≤ 20 := by
  intro s hs
  obtain ⟨i, hi, rfl⟩ := List.getElem_of_mem hs
  have := h.num i S[i] (by simp [hi])
  have := h.cnt
  omega

/-! ### entries -/
theorem getD_of {l : List Ent} {i : Nat} (h : i < l.length) : l.getD i .none = l[i] := by rw [List.getD_eq_getElem?_getD, List.getElem?_eq_getElem h]; rfl
theorem rise_one {e : Ent} (h : e.In) (h0 : 0 < e.index) : Rise [e] where
  up i hi := by have : i = 0 := by simpa using hi
                subst this; simp
  in_ x hx := by rw [List.mem_singleton.1 hx]; exact h
  pos x hx := by rw [List.mem_singleton.1 hx]; exact h0
theorem Rise.last {l : List Ent} (h : Rise l) (h0 : 0 < l.length) : (lastE l).index = (headE l).index + (l.length - 1 : Nat) := by
  have := h.up (l.length - 1) (by omega)
  unfold lastE headE
  rw [show ((l.length : Int) - 1).toNat = l.length - 1 by omega]
  exact this
theorem putE_cases (l : List Ent) (e : Ent) (hl : Rise l) (he : e.In) (h0 : 0 < e.index) : putE l e = [e] ∨ (l ≠ [] ∧ 0 ≤ e.index - (headE l).index ∧ e.index - (headE l).index ≤ l.length ∧ putE l e = l.take (e.index - (headE l).index).toNat ++ [e]) := by
  unfold putE
  split
  · exact .inl rfl
  · rename_i hn
    right
    simp only [not_or] at hn
    obtain ⟨h1, h2, h3⟩ := hn
    have h0 : 0 < l.length := by omega
    have hlast := hl.last h0
    have hmem : ∀ i, i < l.length → I64 (l.getD i .none).index := fun i hi => by
      rw [getD_of hi]; exact (hl.in_ _ (List.getElem_mem hi)).i
    have hA : I64 (lastE l).index := hmem _ (by omega)
    have hB : I64 (headE l).index := hmem _ h0
    have hE := he.i
    unfold I64 at hA hB hE
    have hle : e.index - (headE l).index ≤ l.length := by
      by_cases hm : (lastE l).index + 1 ≤ 9223372036854775807
      · rw [wrap_in (by omega) hm] at h2; omega
      · have : (lastE l).index + 1 = 9223372036854775808 := by omega
        rw [this] at h2
        have : IntKind.i64.wrap 9223372036854775808 = -9223372036854775808 := by decide
        rw [this] at h2; omega
    exact ⟨List.length_pos_iff.1 h0, by omega, hle, rfl⟩
theorem putE_rise {l : List Ent} {e : Ent} (hl : Rise l) (he : e.In) (h0 : 0 < e.index) : Rise (putE l e) := by
  rcases putE_cases l e hl he h0 with h | ⟨hne, h1, h2, h⟩
  · rw [h]; exact rise_one he h0
  · rw [h]
    generalize hk : (e.index - (headE l).index).toNat = k
    have hkl : k ≤ l.length := by omega
    have hlen : (l.take k).length = k := by rw [List.length_take]; omega
    have hhead : ∀ x : Ent, (if 0 < k then (l.getD 0 .none).index else x.index) = (headE l).index → ((l.take k ++ [x]).getD 0 .none).index = (headE l).index := by
      intro x hx
      split at hx
      · rename_i hk0
        rw [List.getD_eq_getElem?_getD, List.getElem?_append_left (by omega), List.getElem?_take_of_lt hk0, ← List.getD_eq_getElem?_getD]; exact hx
      · rename_i hk0
        have : k = 0 := by omega
        subst this; simpa using hx
    have hh : ((l.take k ++ [e]).getD 0 .none).index = (headE l).index := by
      apply hhead
      split
      · rfl
      · omega
    refine { up := fun i hi => ?_, in_ := fun x hx => ?_, pos := fun x hx => ?_ }
    · rw [hh]
      rw [List.length_append, hlen] at hi
      simp only [List.length_cons, List.length_nil] at hi
      rcases Nat.lt_or_ge i k with hik | hik
      · rw [List.getD_eq_getElem?_getD, List.getElem?_append_left (by omega), List.getElem?_take_of_lt hik, ← List.getD_eq_getElem?_getD]
        exact hl.up i (by omega)
      · have : i = k := by omega
        subst this
        rw [List.getD_eq_getElem?_getD, List.getElem?_append_right (by omega), hlen]
        simp; omega
    · rcases List.mem_append.1 hx with hx | hx
      · exact hl.in_ x (List.mem_of_mem_take hx)
      · rw [List.mem_singleton.1 hx]; exact he
    · rcases List.mem_append.1 hx with hx | hx
      · exact hl.pos x (List.mem_of_mem_take hx)
      · rw [List.mem_singleton.1 hx]; exact h0
theorem putE_mem {l : List Ent} {e x : Ent} (h : x ∈ putE l e) : x = e ∨ x ∈ l := by
  unfold putE at h
  split at h
  · exact .inl (List.mem_singleton.1 h)
  · rcases List.mem_append.1 h with h | h
    · exact .inr (List.mem_of_mem_take h)
    · exact .inl (List.mem_singleton.1 h)
theorem putE_len (l : List Ent) (e : Ent) : (putE l e).length ≤ l.length + 1 := by
  unfold putE
  split
  · simp
  · rw [List.length_append, List.length_take]; simp; omega
/-- An entry far from all others stands alone. -/
theorem putE_alone {l : List Ent} {e : Ent} (hl : Rise l) (hg : ∀ x ∈ l, goodI x.index) (he : e.index = 500) : putE l e = [e] := by
  unfold putE
  rw [if_pos]
  by_cases h0 : (l.length : Int) = 0
  · exact .inl h0
  right
  have h0' : 0 < l.length := by omega
  have hlast := hl.last h0'
  have hm : ∀ i, i < l.length → goodI (l.getD i .none).index ∧ I64 (l.getD i .none).index := fun i hi => by
    rw [getD_of hi]; exact ⟨hg _ (List.getElem_mem hi), (hl.in_ _ (List.getElem_mem hi)).i⟩
  have hA : goodI (lastE l).index ∧ I64 (lastE l).index := hm _ (by omega)
  unfold goodI I64 at hA
  by_cases hb : e.index < (headE l).index
  · exact .inr hb
  left
  rw [wrap_in (by omega) (by omega)]
  refine Classical.byContradiction fun hc => ?_
  have h500 : (l.getD (500 - (headE l).index).toNat .none).index = 500 := by
    have hi : (500 - (headE l).index).toNat < l.length := by omega
    have := hl.up _ hi
    rw [this]
    show (headE l).index + _ = 500
    omega
  have hi : (500 - (headE l).index).toNat < l.length := by omega
  have := (hm _ hi).1
  rw [h500] at this
  unfold goodI at this
  omega

/-! ### what is always so -/
structure Live (W : LogS) (D : DiskS) (n : Nat) : Prop where
  sd : SD W.segs D
  rise : Rise W.ents
  good : ∀ e ∈ W.ents, goodI e.index
  len : W.ents.length ≤ n
  hin : W.hard.In
  h0 : 0 ≤ W.hard.term ∧ 0 ≤ W.hard.vote
theorem puts_live {W : LogS} {D : DiskS} {n : Nat} (hW : Live W D n) (l : List Ent) (hl : ∀ e ∈ l, e.In ∧ 0 < e.index ∧ goodI e.index) : Live (puts W l) D (n + l.length) := by
  induction l generalizing W n with
  | nil => exact hW
  | cons e l ih =>
    have he := hl e (List.mem_cons_self ..)
    have := ih (W := W.put e) (n := n + 1) { sd := hW.sd.setTop _, rise := putE_rise hW.rise he.1 he.2.1, good := fun x hx => by rcases putE_mem hx with rfl | hx; exact he.2.2; exact hW.good x hx, len := Nat.le_trans (putE_len _ _) (by have := hW.len; omega), hin := hW.hin, h0 := hW.h0 } fun x hx => hl x (List.mem_cons_of_mem _ hx)
    rw [show n + (e :: l).length = n + 1 + l.length by simp; omega]
    exact this
theorem puts_hard (W : LogS) (l : List Ent) : (puts W l).hard = W.hard := by
  induction l generalizing W with
  | nil => rfl
  | cons e l ih => exact ih _
theorem begun_how (S : List Seg) : begun S = S ∨ (begun S = next S ∧ S.length < 20) := by
  unfold begun
  split
  · rename_i h; exact .inr ⟨rfl, by have := h.2; omega⟩
  · exact .inl rfl
theorem there_new {S : List Seg} {D : DiskS} (h : SD S D) (hc : S.length < 20) : there D S (next S) = S := by
  unfold there
  rw [if_neg]
  rw [keys_of h.files]
  obtain ⟨A, q, rfl⟩ := ne_end h.ne
  have hnum := h.numEnd
  have e : lastS (next (A ++ [q])) = ⟨q.number + 1, 0, 0⟩ := by unfold next; rw [lastS_end, lastS_end]
  rw [e]
  exact segFile_notin h.num (by omega) (by simp [hnum])
/-- A save that may be: full, and nothing is changed, or done. -/
theorem save_live {W : LogS} {D : DiskS} {n : Nat} (hW : Live W D n) (h : Hrd) (hh : h.In) (h0 : 0 ≤ h.term ∧ 0 ≤ h.vote) (l : List Ent) (hl : ∀ e ∈ l, e.In ∧ goodI e.index) (hr : ∀ e ∈ l, e.right = true) (hn : l ≠ []) :
    ((W.save D h l).1 = 6 ∧ (W.save D h l).2 = (W, D) ∧ D.most < (DiskS.total D.files : Int) + (layT (begun W.segs) h (decide (h ≠ W.hard)) (l.map entText)).length) ∨ ((W.save D h l).1 = 0 ∧ Live (W.save D h l).2.1 (W.save D h l).2.2 (n + l.length) ∧ (W.save D h l).2.1.ents = l.foldl putE W.ents ∧ (W.save D h l).2.1.hard = h ∧ DiskS.total (W.save D h l).2.2.files = DiskS.total D.files + (layT (begun W.segs) h (decide (h ≠ W.hard)) (l.map entText)).length ∧ 0 < (layT (begun W.segs) h (decide (h ≠ W.hard)) (l.map entText)).length ∧ (W.save D h l).2.2.most = D.most) := by
  have hany : (l.any fun e => !e.right) = false := by
    rw [List.any_eq_false]
    intro e he
    rw [hr e he]; decide
  have hpos : ∀ e ∈ l, 0 < e.index := fun e he => by
    have := hr e he
    simp only [Ent.right, Bool.and_eq_true, decide_eq_true_eq] at this
    exact this.1.1.1
  unfold LogS.save
  rw [if_neg (by rw [hany]; simp; omega), if_neg (by rintro ⟨h1, _⟩; exact hn h1)]
  rcases lay_live hW.sd (begun_how W.segs) h (decide (h ≠ W.hard)) (l.map entText) with ⟨a, b, c, cf⟩ | ⟨a, b, c, d, e⟩
  · left
    rw [a, b, c, if_pos (by decide)]
    refine ⟨rfl, ?_, cf⟩
    have : (if more W.segs then there D W.segs (begun W.segs) else begun W.segs) = W.segs := by
      unfold begun
      split
      · rename_i hm; exact there_new hW.sd (by have := hm.2; omega)
      · rfl
    rw [this]
  · right
    rw [a, if_neg (by decide), b]
    dsimp only
    have hLv : Live { W with hard := h, segs := grown (begun W.segs) h (decide (h ≠ W.hard)) (l.map entText) } (layD (begun W.segs) D h (decide (h ≠ W.hard)) (l.map entText)) n := { sd := c, rise := hW.rise, good := hW.good, len := hW.len, hin := hh, h0 := h0 }
    refine ⟨rfl, puts_live hLv l fun x hx => ⟨(hl x hx).1, hpos x hx, (hl x hx).2⟩, ?_, puts_hard _ _, d, ?_, e⟩
    · have : ∀ (W : LogS), (puts W l).ents = l.foldl putE W.ents := by
        clear hl hr hn hany hpos a b c d e hLv
        induction l with
        | nil => intro W; rfl
        | cons e l ih => intro W; exact ih (W.put e)
      exact this { W with hard := h, segs := grown (begun W.segs) h (decide (h ≠ W.hard)) (l.map entText) }
    · unfold layT
      apply frames_pos
      unfold told
      split
      · simp
      · simpa using hn
/-- Any save: an error, and nothing is changed; or none, and all stays as it should. -/
theorem save_any {W : LogS} {D : DiskS} {n : Nat} (hW : Live W D n) (h : Hrd) (hh : h.In) (l : List Ent) (hl : ∀ e ∈ l, e.In ∧ goodI e.index) :
    Live (W.save D h l).2.1 (W.save D h l).2.2 (n + l.length) ∧ (W.save D h l).2.2.most = D.most := by
  have hW' : Live W D (n + l.length) := { hW with len := by have := hW.len; omega }
  by_cases h1 : h.term < 0 ∨ h.vote < 0 ∨ (l.any fun e => !e.right) = true
  · unfold LogS.save; rw [if_pos h1]; exact ⟨hW', rfl⟩
  by_cases h2 : l = [] ∧ h = W.hard
  · unfold LogS.save; rw [if_neg h1, if_pos h2]; exact ⟨hW', rfl⟩
  simp only [not_or] at h1
  have hr : ∀ e ∈ l, e.right = true := by
    have := h1.2.2
    rw [Bool.not_eq_true, List.any_eq_false] at this
    intro e he
    have := this e he
    simpa using this
  by_cases hn : l = []
  · subst hn
    unfold LogS.save
    rw [if_neg (by simp; omega), if_neg h2]
    rcases lay_live hW.sd (begun_how W.segs) h (decide (h ≠ W.hard)) (List.map entText []) with ⟨a, b, c, cf⟩ | ⟨a, b, c, d, e⟩
    · rw [a, b, c, if_pos (by decide)]
      have : (if more W.segs then there D W.segs (begun W.segs) else begun W.segs) = W.segs := by
        unfold begun
        split
        · rename_i hm; exact there_new hW.sd (by have := hm.2; omega)
        · rfl
      rw [this]
      exact ⟨hW', rfl⟩
    · rw [a, if_neg (by decide), b]
      exact ⟨{ sd := c, rise := hW.rise, good := hW.good, len := hW.len, hin := hh, h0 := ⟨by show 0 ≤ h.term; omega, by show 0 ≤ h.vote; omega⟩ }, e⟩
  · rcases save_live hW h hh ⟨by omega, by omega⟩ l hl hr hn with ⟨a, b, _⟩ | ⟨a, b, c, d, e, _, f⟩
    · rw [b]; exact ⟨hW', rfl⟩
    · exact ⟨b, f⟩
theorem reset_any {W : LogS} {D : DiskS} {n : Nat} (hW : Live W D n) : Live (W.reset D).2.1 (W.reset D).2.2 n ∧ (W.reset D).2.2.most = D.most := by
  unfold LogS.reset
  rcases lay_live hW.sd (.inl rfl) W.hard false [resetText] with ⟨a, b, c, cf⟩ | ⟨a, b, c, d, e⟩
  · rw [a, b, c, if_pos (by decide)]; exact ⟨hW, rfl⟩
  · rw [a, if_neg (by decide), b]
    exact ⟨{ sd := c, rise := { up := (fun i hi => absurd hi (by simp)), in_ := (fun x hx => by cases hx), pos := (fun x hx => by cases hx) }, good := (fun x hx => by cases hx), len := Nat.zero_le _, hin := hW.hin, h0 := hW.h0 }, e⟩
end Go.Proofs.YtaeefjcbmkiiaaaGreatDoor
