/- The disk: names; what is done with a file; append, sync, truncate, delete. -/
import Derived.Test.YtaeefjcbmkiiaaaGreatDoorD0
import Derived.Test.YtaeefjcbmkiiaaaGreatDoorLX
namespace Go.Proofs.YtaeefjcbmkiiaaaGreatDoor
open Go Sl
attribute [local irreducible] J JR JS RO CR Arr Sat Tr sat blk
set_option linter.unusedVariables false
set_option maxHeartbeats 400000
set_option maxRecDepth 4000

theorem name_tr (s : Nm) (hl : s.length ≤ 9223372036854775807) : Tr Tryz.prog 140 [vs s] [] fun v Γ => v = .bool (okName s) ∧ Γ = [] := by
  refine Tr_of_J Tryz.func140 follows rfl Tryz.ntmps140 (by simp) fun B F => ?_
  repeat' (first | (refine cl (trim_tr s cset (by decide) (by decide) hl) ?_; rintro v Γ' ⟨⟨r, rfl, hr⟩, rfl⟩; refine n0 ?_) | refine mv ?_ | refine asn ?_ | refine jn ?_ | refine nl ?_ | refine ld rfl ?_ | refine nc ?_ | refine f0 ?_ | refine xt2 ?_ | refine sq ?_ | refine rg ?_ | refine lnb ?_ | refine lls rfl ?_ | refine ad ?_ | refine sb ?_ | refine lss ?_ | refine eql ?_ | refine neq ?_ | refine gtr ?_ | refine geq ?_ | refine leq ?_ | refine nt ?_ | refine pen ?_ | refine pnn ?_ | refine p1 ?_ | refine p0 ?_ | refine sk2 ?_ | refine kp ?_ | refine ct ?_ | refine cf ?_ | (refine cd (fun hc => ?_) (fun hc => ?_) <;> try (exfalso; omega)) | (refine cn (fun hc => ?_) (fun hc => ?_) <;> try (exfalso; omega)) | refine bl ?_ | refine ib ?_ | refine xt ?_ | refine bx (fun b_ => ?_) | refine al (fun b_ => ?_) | refine sr rfl ?_ | refine la rfl ?_ | refine ixa rfl rfl ?_ | refine fe ?_ | refine lde rfl ?_ | refine lae rfl ?_ | refine fa ?_ | refine bld ?_ | refine mf2 ?_ | refine seq ?_ | refine sne ?_ | refine cc ?_ | refine ixb ?_ | refine slb ?_ | refine slbl ?_ | refine slbh ?_ | refine cv ?_ | refine mx ?_ | refine mn ?_ | refine ml ?_ | refine af_ ?_ | (refine gd (fun hc => ?_) (fun hc => ?_) <;> try (exfalso; omega)) | (refine gn (fun hc => ?_) (fun hc => ?_) <;> try (exfalso; omega)) | refine aw ?_ | refine pes ?_ | refine pns ?_ | refine sw ?_ | refine ng ?_ | refine aeq ?_ | refine ane ?_ | refine sli rfl ?_ | refine slil rfl ?_ | refine slih rfl ?_ | refine cb (fun hc => ?_) (fun hc => ?_) | refine gs (fun hc => ?_) (fun hc => ?_))
  all_goals refine rt ?_
  · refine ⟨_, ⟨?_, rfl⟩, _, by repeat constructor⟩
    show Value.bool _ = _
    congr 1
    have e : (s.all fun b => cset.contains b) = s.all alnum := rfl
    rw [e] at hr
    simp only [okName, ne_eq, show ¬ s = [] from ‹_›, not_false_eq_true, true_and, show s.length ≤ 24 by omega, decide_true, Bool.true_and]
    rw [Bool.eq_iff_iff, decide_eq_true_iff, hr]
  · refine ⟨_, ⟨?_, rfl⟩, _, by repeat constructor⟩
    have e : okName s = false := by simp [okName]; intro _ h; omega
    rw [e]; rfl
  · refine ⟨_, ⟨?_, rfl⟩, _, by repeat constructor⟩
    have e : okName s = false := by simp [okName, hc]
    rw [e]; rfl
theorem append_tr (d m : Nat) (D : DiskS) (h : D.Ok) (n : Nm) (data : List UInt8) (hn : n.length ≤ 100000) (hd : data.length ≤ 100000000) :
    Tr Tryz.prog 87 [.pointer (some ⟨d, 0, none⟩), vs n, vs data] [blk d (dcell m D), mp fmap m D.files]
      fun v Γ => v = .int .i64 (D.append n data).1 ∧ Γ = [blk d (dcell m (D.append n data).2), mp fmap m (D.append n data).2.files] := by
  have h1 := h.sz
  have h2 := h.m1
  have h3 := (h.find n).1
  have hN : n.length ≤ 9223372036854775807 := by omega
  refine Tr_of_J Tryz.func87 follows rfl Tryz.ntmps87 (by simp) fun B F => ?_
  repeat' (first | (refine cl (find_tr d m D n) ?_; rintro v Γ' ⟨rfl, rfl⟩; refine n2 ?_) | (refine cl (name_tr n hN) ?_; rintro v Γ' ⟨rfl, rfl⟩; refine n0 ?_) | (refine cl (size_tr d m D h) ?_; rintro v Γ' ⟨rfl, rfl⟩; refine n2 ?_) | (refine cl (turn_tr d m D h) ?_; rintro v Γ' ⟨rfl, rfl⟩; refine n1 ?_) | refine lnm rfl ?_ | refine mpu (q := n) (xv := ⟨(D.find n).1.bytes ++ data, (D.find n).1.synced⟩) rfl rfl rfl rfl ?_ | refine mv ?_ | refine asn ?_ | refine jn ?_ | refine nl ?_ | refine ld rfl ?_ | refine nc ?_ | refine f0 ?_ | refine xt2 ?_ | refine sq ?_ | refine rg ?_ | refine lnb ?_ | refine lls rfl ?_ | refine ad ?_ | refine sb ?_ | refine lss ?_ | refine eql ?_ | refine neq ?_ | refine gtr ?_ | refine geq ?_ | refine leq ?_ | refine nt ?_ | refine pen ?_ | refine pnn ?_ | refine p1 ?_ | refine p0 ?_ | refine sk2 ?_ | refine kp ?_ | refine ct ?_ | refine cf ?_ | (refine cd (fun hc => ?_) (fun hc => ?_) <;> try (exfalso; omega)) | (refine cn (fun hc => ?_) (fun hc => ?_) <;> try (exfalso; omega)) | refine bl ?_ | refine ib ?_ | refine xt ?_ | refine bx (fun b_ => ?_) | refine al (fun b_ => ?_) | refine sr rfl ?_ | refine la rfl ?_ | refine ixa rfl rfl ?_ | refine fe ?_ | refine lde rfl ?_ | refine lae rfl ?_ | refine fa ?_ | refine bld ?_ | refine mf2 ?_ | refine seq ?_ | refine sne ?_ | refine cc ?_ | refine ixb ?_ | refine slb ?_ | refine slbl ?_ | refine slbh ?_ | refine cv ?_ | refine mx ?_ | refine mn ?_ | refine ml ?_ | refine af_ ?_ | (refine gd (fun hc => ?_) (fun hc => ?_) <;> try (exfalso; omega)) | (refine gn (fun hc => ?_) (fun hc => ?_) <;> try (exfalso; omega)) | refine aw ?_ | refine pes ?_ | refine pns ?_ | refine sw ?_ | refine ng ?_ | refine aeq ?_ | refine ane ?_ | refine sli rfl ?_ | refine slil rfl ?_ | refine slih rfl ?_ | refine cb (fun hc => ?_) (fun hc => ?_) | refine gs (fun hc => ?_) (fun hc => ?_) | refine J_draw (id := 8) [(0, true, []), (2, true, []), (3, true, []), (5, true, []), (6, true, []), (7, true, []), (8, true, []), (1, false, [2, 3, 5, 6, 7, 8]), (4, true, []), (9, true, []), (10, true, [])] (by kernel_rfl) ?_ | refine J_draw (id := 14) [(0, true, []), (1, true, []), (2, true, []), (3, true, []), (4, true, []), (5, true, []), (6, false, [])] (by kernel_rfl) ?_ | refine JS_cons rfl rfl (RO_move rfl) ?_ | refine JS_cons rfl rfl (RO_nilCheck rfl) ?_ | refine JS_cons rfl rfl (RO_fieldAddr0 rfl) ?_ | refine JS_cons rfl rfl (RO_load rfl (by rfl)) ?_ | refine JS_off rfl ?_ | refine JS_cons rfl rfl (RO_extract rfl rfl) ?_ | refine JS_cons rfl rfl (RO_not rfl) ?_ | refine JS_cons rfl rfl (RO_fieldAddr rfl) ?_ | refine JS_cons rfl rfl (RO_lnb rfl) ?_ | refine JS_cons rfl rfl (RO_lls rfl) ?_ | refine JS_cons rfl rfl (RO_add_in rfl rfl (by omega)) ?_ | refine JS_cons rfl rfl (RO_sub_in rfl rfl (by omega)) ?_ | refine JS_cons rfl rfl (RO_ixa rfl rfl (by omega)) ?_ | refine JS_cons rfl rfl (RO_fe rfl) ?_ | refine JS_cons rfl rfl (RO_lde rfl (by omega) rfl) ?_ | refine JS_cons rfl rfl (RO_slih rfl rfl (by omega)) ?_ | refine JS_cons rfl rfl (RO_slil rfl rfl (by omega)) ?_ | refine JS_offu rfl ?_ | refine JS_cons rfl rfl (RO_cc rfl rfl (by omega)) ?_ | refine JS_cons rfl rfl (RO_bld rfl (by (repeat (first | exact FillS.nil | (apply FillS.cons; rfl; rfl; constructor; rfl; (focus repeat constructor)))))) ?_ | refine JS_cons rfl rfl (RO_lae rfl (by omega) (by repeat constructor)) ?_ | refine JS_cons rfl rfl (RO_loadAgg rfl (by repeat constructor)) ?_)
  all_goals refine rt ?_
  all_goals clear h1 h2 h3 hN hn hd h
  all_goals first
    | (rw [show D.append n data = ((D.find n).2, D) by simp_all [DiskS.append]; try (intros; omega)]; exact ⟨_, ⟨rfl, rfl⟩, _, by repeat constructor⟩)
    | (rw [show D.append n data = (3, D) by simp_all [DiskS.append]; try (intros; omega)]; exact ⟨_, ⟨rfl, rfl⟩, _, by repeat constructor⟩)
    | (rw [show D.append n data = (11, D) by simp_all [DiskS.append]; try (intros; omega)]; exact ⟨_, ⟨rfl, rfl⟩, _, by repeat constructor⟩)
    | (rw [show D.append n data = (6, D) by simp_all [DiskS.append]; try (intros; omega)]; exact ⟨_, ⟨rfl, rfl⟩, _, by repeat constructor⟩)
    | (rw [show D.append n data = D.turn by simp_all [DiskS.append]; try (intros; omega)]; exact ⟨_, ⟨rfl, rfl⟩, _, by repeat constructor⟩)
    | (rw [show D.append n data = (0, { D.turn.2 with files := aput D.files n ⟨(D.find n).1.bytes ++ data, (D.find n).1.synced⟩ }) by simp_all [DiskS.append]; try (intros; omega)]; exact ⟨_, ⟨rfl, rfl⟩, _, by repeat constructor⟩)

theorem fine_tr (f : FileS) : Tr Tryz.prog 95 [fileE f] [] fun v Γ => v = .int .i64 0 ∧ Γ = [] := by
  refine Tr_of_J Tryz.func95 follows rfl Tryz.ntmps95 (by simp) fun B F => ?_
  repeat' (first | refine mv ?_ | refine asn ?_ | refine jn ?_ | refine nl ?_ | refine ld rfl ?_ | refine nc ?_ | refine f0 ?_ | refine xt2 ?_ | refine sq ?_ | refine rg ?_ | refine lnb ?_ | refine lls rfl ?_ | refine ad ?_ | refine sb ?_ | refine lss ?_ | refine eql ?_ | refine neq ?_ | refine gtr ?_ | refine geq ?_ | refine leq ?_ | refine nt ?_ | refine pen ?_ | refine pnn ?_ | refine p1 ?_ | refine p0 ?_ | refine sk2 ?_ | refine kp ?_ | refine ct ?_ | refine cf ?_ | (refine cd (fun hc => ?_) (fun hc => ?_) <;> try (exfalso; omega)) | (refine cn (fun hc => ?_) (fun hc => ?_) <;> try (exfalso; omega)) | refine bl ?_ | refine ib ?_ | refine xt ?_ | refine bx (fun b_ => ?_) | refine al (fun b_ => ?_) | refine sr rfl ?_ | refine la rfl ?_ | refine ixa rfl rfl ?_ | refine fe ?_ | refine lde rfl ?_ | refine lae rfl ?_ | refine fa ?_ | refine bld ?_ | refine mf2 ?_ | refine seq ?_ | refine sne ?_ | refine cc ?_ | refine ixb ?_ | refine slb ?_ | refine slbl ?_ | refine slbh ?_ | refine cv ?_ | refine mx ?_ | refine mn ?_ | refine ml ?_ | refine af_ ?_ | (refine gd (fun hc => ?_) (fun hc => ?_) <;> try (exfalso; omega)) | (refine gn (fun hc => ?_) (fun hc => ?_) <;> try (exfalso; omega)) | refine aw ?_ | refine pes ?_ | refine pns ?_ | refine sw ?_ | refine ng ?_ | refine aeq ?_ | refine ane ?_ | refine sli rfl ?_ | refine slil rfl ?_ | refine slih rfl ?_ | refine cb (fun hc => ?_) (fun hc => ?_) | refine gs (fun hc => ?_) (fun hc => ?_))
  refine rt ?_
  exact ⟨_, ⟨rfl, rfl⟩, _, by repeat constructor⟩
/-- What is done with a file: by what the test says and what the deed does. -/
theorem does_tr (d m : Nat) (D : DiskS) (h : D.Ok) (n : Nm) (fc fw : Nat) (cc cw : List Value) (C : Assn) (check : FileS → Int) (what : FileS → List (Nm × FileS) → List (Nm × FileS)) [IsFn Tryz.prog fc] [IsFn Tryz.prog fw]
    (hchk : ∀ f, Tr Tryz.prog fc (fileE f :: cc) [C] fun v Γ => v = .int .i64 (check f) ∧ Γ = [C])
    (hdo : ∀ f D', check f = 0 → Tr Tryz.prog fw (fileE f :: cw) [C, blk d (dcell m D'), mp fmap m D'.files] fun v Γ => Γ = [C, blk d (dcell m D'), mp fmap m (what f D'.files)]) :
    Tr Tryz.prog 94 [.pointer (some ⟨d, 0, none⟩), vs n, .func (.func fc) #[] ⟨cc⟩, .func (.func fw) #[] ⟨cw⟩] [C, blk d (dcell m D), mp fmap m D.files]
      fun v Γ => v = .int .i64 (D.does n check what).1 ∧ Γ = [C, blk d (dcell m (D.does n check what).2), mp fmap m (D.does n check what).2.files] := by
  refine Tr_of_J Tryz.func94 follows rfl Tryz.ntmps94 (by simp) fun B F => ?_
  repeat' (first | (refine cl (find_tr d m D n) ?_; rintro v Γ' ⟨rfl, rfl⟩; refine n2 ?_) | (refine cl (turn_tr d m D h) ?_; rintro v Γ' ⟨rfl, rfl⟩; refine n1 ?_) | (refine cl3 rfl (hchk (D.find n).1) ?_; rintro v Γ' ⟨rfl, rfl⟩; refine n1 ?_) | (refine cl3 rfl (hdo (D.find n).1 D.turn.2 (by assumption)) ?_; rintro v Γ' rfl; refine n3 ?_) | refine mv ?_ | refine asn ?_ | refine jn ?_ | refine nl ?_ | refine ld rfl ?_ | refine nc ?_ | refine f0 ?_ | refine xt2 ?_ | refine sq ?_ | refine rg ?_ | refine lnb ?_ | refine lls rfl ?_ | refine ad ?_ | refine sb ?_ | refine lss ?_ | refine eql ?_ | refine neq ?_ | refine gtr ?_ | refine geq ?_ | refine leq ?_ | refine nt ?_ | refine pen ?_ | refine pnn ?_ | refine p1 ?_ | refine p0 ?_ | refine sk2 ?_ | refine kp ?_ | refine ct ?_ | refine cf ?_ | (refine cd (fun hc => ?_) (fun hc => ?_) <;> try (exfalso; omega)) | (refine cn (fun hc => ?_) (fun hc => ?_) <;> try (exfalso; omega)) | refine bl ?_ | refine ib ?_ | refine xt ?_ | refine bx (fun b_ => ?_) | refine al (fun b_ => ?_) | refine sr rfl ?_ | refine la rfl ?_ | refine ixa rfl rfl ?_ | refine fe ?_ | refine lde rfl ?_ | refine lae rfl ?_ | refine fa ?_ | refine bld ?_ | refine mf2 ?_ | refine seq ?_ | refine sne ?_ | refine cc ?_ | refine ixb ?_ | refine slb ?_ | refine slbl ?_ | refine slbh ?_ | refine cv ?_ | refine mx ?_ | refine mn ?_ | refine ml ?_ | refine af_ ?_ | (refine gd (fun hc => ?_) (fun hc => ?_) <;> try (exfalso; omega)) | (refine gn (fun hc => ?_) (fun hc => ?_) <;> try (exfalso; omega)) | refine aw ?_ | refine pes ?_ | refine pns ?_ | refine sw ?_ | refine ng ?_ | refine aeq ?_ | refine ane ?_ | refine sli rfl ?_ | refine slil rfl ?_ | refine slih rfl ?_ | refine cb (fun hc => ?_) (fun hc => ?_) | refine gs (fun hc => ?_) (fun hc => ?_))
  all_goals refine rt ?_
  all_goals clear hchk hdo h
  all_goals first
    | (rw [show D.does n check what = ((D.find n).2, D) by simp_all [DiskS.does]]; exact ⟨_, ⟨rfl, rfl⟩, _, by repeat constructor⟩)
    | (rw [show D.does n check what = (check (D.find n).1, D) by simp_all [DiskS.does]]; exact ⟨_, ⟨rfl, rfl⟩, _, by repeat constructor⟩)
    | (rw [show D.does n check what = D.turn by simp_all [DiskS.does]]; exact ⟨_, ⟨rfl, rfl⟩, _, by repeat constructor⟩)
    | (rw [show D.does n check what = (0, { D.turn.2 with files := what (D.find n).1 D.files }) by simp_all [DiskS.does]]; exact ⟨_, ⟨by simp_all [tupleOf], rfl⟩, _, by repeat constructor⟩)
end Go.Proofs.YtaeefjcbmkiiaaaGreatDoor
