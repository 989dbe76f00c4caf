/- The law: an act that saves or resets; are there not too many acts. -/
import Derived.Test.YtaeefjcbmkiiaaaGreatDoorL0
namespace Go.Proofs.YtaeefjcbmkiiaaaGreatDoor
open Go Sl
attribute [local irreducible] J JR JS RO CR Arr Sat Tr sat blk
set_option linter.unusedVariables false
set_option maxHeartbeats 1000000
set_option maxRecDepth 4000
section
open Go.RowKit
variable {c : Ctx} {k : List Item} {st : St} {ops : Array Oper} {rs : List Oper} {l : List Stp}
theorem n5 {A B C D E : Assn} {R : List Assn} (h : JS c ops rs l k st (A :: B :: C :: D :: E :: R)) : JS c ops rs l k st ([A, B, C, D, E] ++ R) := h
theorem n6 {A B C D E F : Assn} {R : List Assn} (h : JS c ops rs l k st (A :: B :: C :: D :: E :: F :: R)) : JS c ops rs l k st ([A, B, C, D, E, F] ++ R) := h
end
/-- A world's own block. -/
abbrev wcell (d w : Nat) : Obj := .cells ⟨[.pointer (some ⟨d, 0, none⟩), .pointer (some ⟨w, 0, none⟩)]⟩ 38 (0, 0)
def actOf (W : LogS) (D : DiskS) (a : Act) : Int × LogS × DiskS := if pickI a.op 10 = 6 then W.reset D else W.save D (hardOf a) (entriesOf a)
theorem pickI_64 (c : Int) {n : Int} (h : 0 < n) (h2 : n ≤ 1000000) : I64 (pickI c n) := by
  have := pickI_lt c h
  unfold I64; omega
theorem hardOf_in {a : Act} (ha : a.In) : (hardOf a).In := by
  unfold hardOf; split
  · exact ⟨ha.t, ha.v⟩
  · exact ⟨pickI_64 _ (by decide) (by decide), pickI_64 _ (by decide) (by decide)⟩
theorem entriesOf_in {a : Act} (ha : a.In) : ∀ e ∈ entriesOf a, e.In ∧ goodI e.index ∧ e.data = a.data := by
  intro e he
  unfold entriesOf at he
  obtain ⟨i, hi, rfl⟩ := List.mem_map.1 he
  rw [List.mem_range] at hi
  have h5 := pickI_lt a.n (n := 5) (by decide)
  have h30 := pickI_lt a.idx (n := 30) (by decide)
  unfold entOf; split
  · rename_i h
    refine ⟨⟨ha.i, pickI_64 _ (by decide) (by decide), ha.n⟩, .inr ?_, rfl⟩
    have hd : (37 : Int) ∣ a.idx := Int.dvd_of_tmod_eq_zero h.1
    exact Int.emod_eq_zero_of_dvd hd
  · refine ⟨⟨?_, pickI_64 _ (by decide) (by decide), by show I64 2; decide⟩, .inl ?_, rfl⟩
    · show I64 (1 + pickI a.idx 30 + i); unfold I64; omega
    · show 1 + pickI a.idx 30 + i ≤ 33; omega
theorem entriesOf_len (a : Act) : (entriesOf a).length ≤ 5 := by
  have h5 := pickI_lt a.n (n := 5) (by decide)
  unfold entriesOf; rw [List.length_map, List.length_range]; omega
theorem actOf_live {W : LogS} {D : DiskS} {n : Nat} (hW : Live W D n) {a : Act} (ha : a.In) : Live (actOf W D a).2.1 (actOf W D a).2.2 (n + 5) ∧ (actOf W D a).2.2.most = D.most := by
  unfold actOf; split
  · have := reset_any hW
    exact ⟨{ this.1 with len := by have := this.1.len; omega }, this.2⟩
  · have := save_any hW (hardOf a) (hardOf_in ha) (entriesOf a) fun e he => ⟨(entriesOf_in ha e he).1, (entriesOf_in ha e he).2.1⟩
    have hl := entriesOf_len a
    exact ⟨{ this.1 with len := by have := this.1.len; omega }, this.2⟩
/-- What is asked of a log that is saved. -/
structure SegOk (W : LogS) : Prop where
  ne : W.segs ≠ []
  cnt : W.segs.length ≤ 1000
  n0 : 0 ≤ (lastS W.segs).number
  n1 : (lastS W.segs).number < 99
  z0 : 0 ≤ (lastS W.segs).size
  z1 : (lastS W.segs).size ≤ 100000000
theorem Live.seg {W : LogS} {D : DiskS} {n : Nat} (h : Live W D n) : SegOk W := by
  have h1 := h.sd.num_le _ (lastS_mem h.sd.ne)
  have h2 := h.sd.sizes _ (lastS_mem h.sd.ne)
  have h3 := h.sd.ok.m1
  have h4 := h.sd.cnt
  exact ⟨h.sd.ne, by omega, by omega, by omega, h2.1, by omega⟩
theorem act_tr (b w d m : Nat) (W : LogS) (ev sv : Value) (D : DiskS) (n : Nat) (hW : Live W D n) (hn : n ≤ 1000) (a : Act) (ha : a.In) (hd : a.data.length ≤ 700) (ho : pickI a.op 10 < 7) :
    Tr Tryz.prog 12 [.pointer (some ⟨b, 0, none⟩), actV a] [blk b (wcell d w), blk w (lcell d W.hard ev sv), sl 70 entE ev W.ents, sl 94 segE sv W.segs, blk d (dcell m D), mp fmap m D.files]
      fun v Γ => ∃ ev' sv', v = .int .i64 (actOf W D a).1 ∧ Γ = [blk b (wcell d w), blk w (lcell d (actOf W D a).2.1.hard ev' sv'), sl 70 entE ev' (actOf W D a).2.1.ents, sl 94 segE sv' (actOf W D a).2.1.segs, blk d (dcell m (actOf W D a).2.2), mp fmap m (actOf W D a).2.2.files] := by
  have hs := hW.seg
  have hl := entriesOf_len a
  have hle := hW.len
  have hli : ∀ e ∈ entriesOf a, e.In ∧ e.data.length ≤ 60000 := fun e he => by
    have := entriesOf_in ha e he
    exact ⟨this.1, by rw [this.2.2]; omega⟩
  refine Tr_of_J Tryz.func12 follows rfl Tryz.ntmps12 (by simp) fun B F => ?_
  repeat' (first | (refine cle rfl (pick_tr a.op 10 ha.o (by decide)) ?_; rintro r Γ' ⟨rfl, rfl⟩; refine n0 ?_) | (refine cle rfl (reset_tr w d m W ev sv D hW.sd.ok hW.hin hs.ne (by have := hs.cnt; omega) hs.n0 (by have := hs.n1; omega) hs.z0 hs.z1) ?_; rintro r Γ' ⟨ev2, rfl, rfl⟩; refine n5 ?_) | (refine cle rfl (hardOf_tr a ha) ?_; rintro r Γ' ⟨rfl, rfl⟩; refine n0 ?_) | (refine cle rfl (entriesOf_tr a ha (by omega)) ?_; rintro lv Γ' rfl; refine n1 ?_) | (refine cle rfl (save_tr w d m lv W ev sv D hW.sd.ok (hardOf a) (hardOf_in ha) (entriesOf a) (by omega) hli hs.ne hs.cnt hs.n0 hs.n1 hs.z0 hs.z1 hW.rise (by omega)) ?_; rintro r Γ' ⟨ev2, sv2, rfl, rfl⟩; refine n5 ?_) | refine mv ?_ | refine asn ?_ | refine jn ?_ | refine nl ?_ | refine ld rfl ?_ | refine nc ?_ | refine f0 ?_ | refine xt2 ?_ | refine sq ?_ | refine rg ?_ | refine lnb ?_ | refine lls rfl ?_ | refine ad ?_ | refine sb ?_ | refine lss ?_ | refine eql ?_ | refine neq ?_ | refine gtr ?_ | refine geq ?_ | refine leq ?_ | refine nt ?_ | refine pen ?_ | refine pnn ?_ | refine p1 ?_ | refine p0 ?_ | refine sk2 ?_ | refine kp ?_ | refine ct ?_ | refine cf ?_ | (refine cd (fun hc => ?_) (fun hc => ?_) <;> try (exfalso; omega)) | (refine cn (fun hc => ?_) (fun hc => ?_) <;> try (exfalso; omega)) | refine bl ?_ | refine ib ?_ | refine xt ?_ | refine bx (fun b_ => ?_) | refine al (fun b_ => ?_) | refine sr rfl ?_ | refine la rfl ?_ | refine ixa rfl rfl ?_ | refine fe ?_ | refine lde rfl ?_ | refine lae rfl ?_ | refine fa ?_ | refine bld ?_ | refine mf2 ?_ | refine seq ?_ | refine sne ?_ | refine cc ?_ | refine ixb ?_ | refine slb ?_ | refine slbl ?_ | refine slbh ?_ | refine cv ?_ | refine mx ?_ | refine mn ?_ | refine ml ?_ | refine af_ ?_ | (refine gd (fun hc => ?_) (fun hc => ?_) <;> try (exfalso; omega)) | (refine gn (fun hc => ?_) (fun hc => ?_) <;> try (exfalso; omega)) | refine aw ?_ | refine pes ?_ | refine pns ?_ | refine sw ?_ | refine ng ?_ | refine aeq ?_ | refine ane ?_ | refine sli rfl ?_ | refine slil rfl ?_ | refine slih rfl ?_ | refine cb (fun hc => ?_) (fun hc => ?_) | refine gs (fun hc => ?_) (fun hc => ?_) | refine J_draw (id := 5) [(0, true, []), (1, true, []), (2, true, []), (3, true, []), (4, true, []), (5, true, []), (6, false, []), (7, true, [])] (by kernel_rfl) ?_ | refine J_draw (id := 7) [(0, true, []), (1, true, []), (2, true, []), (3, true, []), (4, true, []), (5, true, []), (6, false, [0, 1, 2, 3]), (7, false, [])] (by kernel_rfl) ?_ | refine J_draw (id := 10) [(0, true, []), (1, true, []), (2, true, []), (3, true, []), (4, true, []), (5, true, []), (6, true, []), (7, true, []), (8, false, [])] (by kernel_rfl) ?_ | refine J_draw (id := 15) [(0, true, []), (1, true, []), (2, true, []), (3, true, []), (4, true, []), (6, true, []), (5, false, [0, 1, 2, 3, 6]), (7, false, [0, 1, 2, 3]), (8, false, []), (9, true, [])] (by kernel_rfl) ?_ | refine JS_cons rfl rfl (RO_move rfl) ?_ | refine JS_cons rfl rfl (RO_nilCheck rfl) ?_ | refine JS_cons rfl rfl (RO_fieldAddr0 rfl) ?_ | refine JS_cons rfl rfl (RO_load rfl (by rfl)) ?_ | refine JS_off rfl ?_ | refine JS_cons rfl rfl (RO_extract rfl rfl) ?_ | refine JS_cons rfl rfl (RO_not rfl) ?_ | refine JS_cons rfl rfl (RO_fieldAddr rfl) ?_ | refine JS_cons rfl rfl (RO_lnb rfl) ?_ | refine JS_cons rfl rfl (RO_lls rfl) ?_ | refine JS_cons rfl rfl (RO_add_in rfl rfl (by omega)) ?_ | refine JS_cons rfl rfl (RO_sub_in rfl rfl (by omega)) ?_ | refine JS_cons rfl rfl (RO_ixa rfl rfl (by omega)) ?_ | refine JS_cons rfl rfl (RO_fe rfl) ?_ | refine JS_cons rfl rfl (RO_lde rfl (by omega) rfl) ?_ | refine JS_cons rfl rfl (RO_slih rfl rfl (by omega)) ?_ | refine JS_cons rfl rfl (RO_slil rfl rfl (by omega)) ?_ | refine JS_offu rfl ?_ | refine JS_cons rfl rfl (RO_cc rfl rfl (by omega)) ?_ | refine JS_cons rfl rfl (RO_bld rfl (by (repeat (first | exact FillS.nil | (apply FillS.cons; rfl; rfl; constructor; rfl; (focus repeat constructor)))))) ?_ | refine JS_cons rfl rfl (RO_lae rfl (by omega) (by repeat constructor)) ?_ | refine JS_cons rfl rfl (RO_loadAgg rfl (by repeat constructor)) ?_)
  · rw [show actOf W D a = W.reset D from if_pos (by assumption)]
    refine rt ?_
    exact ⟨_, ⟨_, _, rfl, rfl⟩, _, by repeat constructor⟩
  · rw [show actOf W D a = W.save D (hardOf a) (entriesOf a) from if_neg (by assumption)]
    refine rt ?_
    exact ⟨_, ⟨_, _, rfl, rfl⟩, _, by repeat constructor⟩
end Go.Proofs.YtaeefjcbmkiiaaaGreatDoor
