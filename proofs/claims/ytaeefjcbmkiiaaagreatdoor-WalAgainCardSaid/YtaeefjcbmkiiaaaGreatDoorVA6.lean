/- The log: its segments' names; is one wrong among entries; is a name among some; the segments that are there. -/
import Derived.Test.YtaeefjcbmkiiaaaGreatDoorVA5
set_option linter.unusedVariables false
set_option linter.unusedSimpArgs false
namespace Go.Proofs.YtaeefjcbmkiiaaaGreatDoor
open Go Sl
attribute [local irreducible] J JR JS RO CR Arr Sat Tr sat blk
set_option linter.unusedVariables false
set_option maxHeartbeats 400000
set_option maxRecDepth 4000
theorem segGetD_mem {S : List Seg} {i : Nat} (h : i < S.length) : S.getD i .none ∈ S := by
  rw [List.getD_eq_getElem?_getD, List.getElem?_eq_getElem h]; exact List.getElem_mem h
theorem segments_tr (w d : Nat) (h : Hrd) (ev sv : Value) (S : List Seg) (hS : ∀ s ∈ S, 0 ≤ s.number ∧ s.number < 100) (hl : S.length ≤ 1000) : Tr Tryz.prog 16 [.pointer (some ⟨w, 0, none⟩)] [blk w (lcell d h ev sv), sl 94 segE sv S]
    fun v Γ => Γ = [sl 9 strE v (S.map segFile), blk w (lcell d h ev sv), sl 94 segE sv S] := by
  refine Tr_of_J Tryz.func16 follows rfl Tryz.ntmps16 (by simp) fun B F => ?_
  repeat' (first | refine mv ?_ | refine asn ?_ | refine jn ?_ | refine nl ?_ | refine ld rfl ?_ | refine nc ?_ | refine f0 ?_ | refine xt2 ?_ | refine sq ?_ | refine rg ?_ | refine lnb ?_ | refine lls rfl ?_ | refine ad ?_ | refine sb ?_ | refine lss ?_ | refine eql ?_ | refine neq ?_ | refine gtr ?_ | refine geq ?_ | refine leq ?_ | refine nt ?_ | refine pen ?_ | refine pnn ?_ | refine p1 ?_ | refine p0 ?_ | refine sk2 ?_ | refine kp ?_ | refine ct ?_ | refine cf ?_ | (refine cd (fun hc => ?_) (fun hc => ?_) <;> try (exfalso; omega)) | (refine cn (fun hc => ?_) (fun hc => ?_) <;> try (exfalso; omega)) | refine bl ?_ | refine ib ?_ | refine xt ?_ | refine bx (fun b_ => ?_) | refine al (fun b_ => ?_) | refine sr rfl ?_ | refine la rfl ?_ | refine ixa rfl rfl ?_ | refine fe ?_ | refine lde rfl ?_ | refine lae rfl ?_ | refine fa ?_ | refine bld ?_ | refine mf2 ?_ | refine seq ?_ | refine sne ?_ | refine cc ?_ | refine ixb ?_ | refine slb ?_ | refine slbl ?_ | refine slbh ?_ | refine cv ?_ | refine mx ?_ | refine mn ?_ | refine ml ?_ | refine af_ ?_ | (refine gd (fun hc => ?_) (fun hc => ?_) <;> try (exfalso; omega)) | (refine gn (fun hc => ?_) (fun hc => ?_) <;> try (exfalso; omega)) | refine aw ?_ | refine pes ?_ | refine pns ?_ | refine sw ?_ | refine ng ?_ | refine aeq ?_ | refine ane ?_ | refine sli rfl ?_ | refine slil rfl ?_ | refine slih rfl ?_ | refine cb (fun hc => ?_) (fun hc => ?_) | refine gs (fun hc => ?_) (fun hc => ?_))
  refine J_sat (Γ' := sl 9 strE (.slice none 0 0) [] :: _) ?_ fun w hS => sl_nil hS
  refine lp (α := Nat × Int × Value × List Nm) (fun y => [(3, y.2.2.1), (9, sv), (10, .int .i64 S.length), (11, .int .i64 y.2.1)]) (fun y => [sl 9 strE y.2.2.1 y.2.2.2, blk w (lcell d h ev sv), sl 94 segE sv S]) (fun y => y.2.1 = (y.1 : Int) ∧ y.1 ≤ S.length ∧ y.2.2.2 = (S.take y.1).map segFile) (fun y => S.length - y.1) (0, 0, .slice none 0 0, []) ?_ ⟨rfl, Nat.zero_le _, rfl⟩
  rintro ⟨i, n, v, X⟩ ⟨hn, hi, hX⟩ again
  dsimp only at hn hi hX again ⊢
  subst hn
  have hXl : X.length ≤ 1000 := by rw [hX, List.length_map, List.length_take]; omega
  repeat' (first | (refine cl (segName_tr (S.getD i .none) (hS _ (segGetD_mem (by omega))).1 (hS _ (segGetD_mem (by omega))).2) ?_; rintro r Γ' ⟨rfl, rfl⟩; refine n0 ?_) | refine bsl (e := strE) (X := [segFile (S.getD i .none)]) (fun v2 => ?_) (.cona rfl rfl .nil) | refine apo rfl rfl (fun v3 => ?_) (by simp; omega) (by simp; omega) | refine mv ?_ | refine asn ?_ | refine jn ?_ | refine nl ?_ | refine ld rfl ?_ | refine nc ?_ | refine f0 ?_ | refine xt2 ?_ | refine sq ?_ | refine rg ?_ | refine lnb ?_ | refine lls rfl ?_ | refine ad ?_ | refine sb ?_ | refine lss ?_ | refine eql ?_ | refine neq ?_ | refine gtr ?_ | refine geq ?_ | refine leq ?_ | refine nt ?_ | refine pen ?_ | refine pnn ?_ | refine p1 ?_ | refine p0 ?_ | refine sk2 ?_ | refine kp ?_ | refine ct ?_ | refine cf ?_ | (refine cd (fun hc => ?_) (fun hc => ?_) <;> try (exfalso; omega)) | (refine cn (fun hc => ?_) (fun hc => ?_) <;> try (exfalso; omega)) | refine bl ?_ | refine ib ?_ | refine xt ?_ | refine bx (fun b_ => ?_) | refine al (fun b_ => ?_) | refine sr rfl ?_ | refine la rfl ?_ | refine ixa rfl rfl ?_ | refine fe ?_ | refine lde rfl ?_ | refine lae rfl ?_ | refine fa ?_ | refine bld ?_ | refine mf2 ?_ | refine seq ?_ | refine sne ?_ | refine cc ?_ | refine ixb ?_ | refine slb ?_ | refine slbl ?_ | refine slbh ?_ | refine cv ?_ | refine mx ?_ | refine mn ?_ | refine ml ?_ | refine af_ ?_ | (refine gd (fun hc => ?_) (fun hc => ?_) <;> try (exfalso; omega)) | (refine gn (fun hc => ?_) (fun hc => ?_) <;> try (exfalso; omega)) | refine aw ?_ | refine pes ?_ | refine pns ?_ | refine sw ?_ | refine ng ?_ | refine aeq ?_ | refine ane ?_ | refine sli rfl ?_ | refine slil rfl ?_ | refine slih rfl ?_ | refine cb (fun hc => ?_) (fun hc => ?_) | refine gs (fun hc => ?_) (fun hc => ?_))
  · have hi' : i < S.length := by omega
    exact ag (again (i + 1, (i : Int) + 1, v3, X ++ [segFile (S.getD i .none)]) ⟨by dsimp only; omega, hi', by dsimp only; rw [hX, List.take_succ_eq_append_getElem hi', List.map_append, List.getD_eq_getElem?_getD, List.getElem?_eq_getElem hi']; rfl⟩ (by dsimp only; omega))
  · have hil : i = S.length := by omega
    rw [hil, List.take_length] at hX
    subst hX
    refine rt ?_
    exact ⟨_, rfl, _, by repeat constructor⟩
theorem wrong_tr (e : Ent) : Tr Tryz.prog 56 [entV e] [] fun v Γ => v = .bool (!e.right) ∧ Γ = [] := by
  refine Tr_of_J Tryz.func56 follows rfl Tryz.ntmps56 (by simp) fun B F => ?_
  repeat' (first | (refine cl (right_tr e) ?_; rintro r Γ' ⟨rfl, rfl⟩; refine n0 ?_) | refine mv ?_ | refine asn ?_ | refine jn ?_ | refine nl ?_ | refine ld rfl ?_ | refine nc ?_ | refine f0 ?_ | refine xt2 ?_ | refine sq ?_ | refine rg ?_ | refine lnb ?_ | refine lls rfl ?_ | refine ad ?_ | refine sb ?_ | refine lss ?_ | refine eql ?_ | refine neq ?_ | refine gtr ?_ | refine geq ?_ | refine leq ?_ | refine nt ?_ | refine pen ?_ | refine pnn ?_ | refine p1 ?_ | refine p0 ?_ | refine sk2 ?_ | refine kp ?_ | refine ct ?_ | refine cf ?_ | (refine cd (fun hc => ?_) (fun hc => ?_) <;> try (exfalso; omega)) | (refine cn (fun hc => ?_) (fun hc => ?_) <;> try (exfalso; omega)) | refine bl ?_ | refine ib ?_ | refine xt ?_ | refine bx (fun b_ => ?_) | refine al (fun b_ => ?_) | refine sr rfl ?_ | refine la rfl ?_ | refine ixa rfl rfl ?_ | refine fe ?_ | refine lde rfl ?_ | refine lae rfl ?_ | refine fa ?_ | refine bld ?_ | refine mf2 ?_ | refine seq ?_ | refine sne ?_ | refine cc ?_ | refine ixb ?_ | refine slb ?_ | refine slbl ?_ | refine slbh ?_ | refine cv ?_ | refine mx ?_ | refine mn ?_ | refine ml ?_ | refine af_ ?_ | (refine gd (fun hc => ?_) (fun hc => ?_) <;> try (exfalso; omega)) | (refine gn (fun hc => ?_) (fun hc => ?_) <;> try (exfalso; omega)) | refine aw ?_ | refine pes ?_ | refine pns ?_ | refine sw ?_ | refine ng ?_ | refine aeq ?_ | refine ane ?_ | refine sli rfl ?_ | refine slil rfl ?_ | refine slih rfl ?_ | refine cb (fun hc => ?_) (fun hc => ?_) | refine gs (fun hc => ?_) (fun hc => ?_))
  refine rt ?_
  exact ⟨_, ⟨rfl, rfl⟩, _, by repeat constructor⟩
theorem indexFunc_tr (lv : Value) (L : List Ent) (hl : L.length ≤ 1000000) : Tr Tryz.prog 97 [lv, .func (.func 56) #[] #[]] [sl 70 entE lv L]
    fun v Γ => (∃ n : Int, v = .int .i64 n ∧ (0 ≤ n ↔ (L.any fun e => !e.right) = true)) ∧ Γ = [sl 70 entE lv L] := by
  refine Tr_of_J Tryz.func97 follows rfl Tryz.ntmps97 (by simp) fun B F => ?_
  repeat' (first | refine mv ?_ | refine asn ?_ | refine jn ?_ | refine nl ?_ | refine ld rfl ?_ | refine nc ?_ | refine f0 ?_ | refine xt2 ?_ | refine sq ?_ | refine rg ?_ | refine lnb ?_ | refine lls rfl ?_ | refine ad ?_ | refine sb ?_ | refine lss ?_ | refine eql ?_ | refine neq ?_ | refine gtr ?_ | refine geq ?_ | refine leq ?_ | refine nt ?_ | refine pen ?_ | refine pnn ?_ | refine p1 ?_ | refine p0 ?_ | refine sk2 ?_ | refine kp ?_ | refine ct ?_ | refine cf ?_ | (refine cd (fun hc => ?_) (fun hc => ?_) <;> try (exfalso; omega)) | (refine cn (fun hc => ?_) (fun hc => ?_) <;> try (exfalso; omega)) | refine bl ?_ | refine ib ?_ | refine xt ?_ | refine bx (fun b_ => ?_) | refine al (fun b_ => ?_) | refine sr rfl ?_ | refine la rfl ?_ | refine ixa rfl rfl ?_ | refine fe ?_ | refine lde rfl ?_ | refine lae rfl ?_ | refine fa ?_ | refine bld ?_ | refine mf2 ?_ | refine seq ?_ | refine sne ?_ | refine cc ?_ | refine ixb ?_ | refine slb ?_ | refine slbl ?_ | refine slbh ?_ | refine cv ?_ | refine mx ?_ | refine mn ?_ | refine ml ?_ | refine af_ ?_ | (refine gd (fun hc => ?_) (fun hc => ?_) <;> try (exfalso; omega)) | (refine gn (fun hc => ?_) (fun hc => ?_) <;> try (exfalso; omega)) | refine aw ?_ | refine pes ?_ | refine pns ?_ | refine sw ?_ | refine ng ?_ | refine aeq ?_ | refine ane ?_ | refine sli rfl ?_ | refine slil rfl ?_ | refine slih rfl ?_ | refine cb (fun hc => ?_) (fun hc => ?_) | refine gs (fun hc => ?_) (fun hc => ?_))
  refine lp (α := Nat × Int) (fun y => [(0, lv), (1, .func (.func 56) #[] #[]), (7, .int .i64 L.length), (8, .int .i64 y.2)]) (fun y => [sl 70 entE lv L]) (fun y => y.2 = (y.1 : Int) ∧ y.1 ≤ L.length ∧ ∀ e ∈ L.take y.1, e.right = true) (fun y => L.length - y.1) (0, 0) ?_ ⟨rfl, Nat.zero_le _, fun e he => by simp at he⟩
  rintro ⟨i, n⟩ ⟨hn, hi, hr⟩ again
  dsimp only at hn hi hr again ⊢
  subst hn
  repeat' (first | (refine cl3 rfl (wrong_tr (L.getD i .none)) ?_; rintro r Γ' ⟨rfl, rfl⟩; refine n0 ?_) | refine mv ?_ | refine asn ?_ | refine jn ?_ | refine nl ?_ | refine ld rfl ?_ | refine nc ?_ | refine f0 ?_ | refine xt2 ?_ | refine sq ?_ | refine rg ?_ | refine lnb ?_ | refine lls rfl ?_ | refine ad ?_ | refine sb ?_ | refine lss ?_ | refine eql ?_ | refine neq ?_ | refine gtr ?_ | refine geq ?_ | refine leq ?_ | refine nt ?_ | refine pen ?_ | refine pnn ?_ | refine p1 ?_ | refine p0 ?_ | refine sk2 ?_ | refine kp ?_ | refine ct ?_ | refine cf ?_ | (refine cd (fun hc => ?_) (fun hc => ?_) <;> try (exfalso; omega)) | (refine cn (fun hc => ?_) (fun hc => ?_) <;> try (exfalso; omega)) | refine bl ?_ | refine ib ?_ | refine xt ?_ | refine bx (fun b_ => ?_) | refine al (fun b_ => ?_) | refine sr rfl ?_ | refine la rfl ?_ | refine ixa rfl rfl ?_ | refine fe ?_ | refine lde rfl ?_ | refine lae rfl ?_ | refine fa ?_ | refine bld ?_ | refine mf2 ?_ | refine seq ?_ | refine sne ?_ | refine cc ?_ | refine ixb ?_ | refine slb ?_ | refine slbl ?_ | refine slbh ?_ | refine cv ?_ | refine mx ?_ | refine mn ?_ | refine ml ?_ | refine af_ ?_ | (refine gd (fun hc => ?_) (fun hc => ?_) <;> try (exfalso; omega)) | (refine gn (fun hc => ?_) (fun hc => ?_) <;> try (exfalso; omega)) | refine aw ?_ | refine pes ?_ | refine pns ?_ | refine sw ?_ | refine ng ?_ | refine aeq ?_ | refine ane ?_ | refine sli rfl ?_ | refine slil rfl ?_ | refine slih rfl ?_ | refine cb (fun hc => ?_) (fun hc => ?_) | refine gs (fun hc => ?_) (fun hc => ?_))
  · have hi' : i < L.length := by omega
    refine rt ?_
    refine ⟨_, ⟨⟨i, rfl, ?_⟩, rfl⟩, _, by repeat constructor⟩
    constructor
    · intro _
      rw [List.any_eq_true]
      exact ⟨L.getD i .none, by rw [getD_of hi']; exact List.getElem_mem hi', by assumption⟩
    · intro _; omega
  · have hi' : i < L.length := by omega
    have hg : (L.getD i .none).right = true := by cases hh : (L.getD i .none).right <;> simp_all
    exact ag (again (i + 1, (i : Int) + 1) ⟨by dsimp only; omega, hi', by
      intro e he
      dsimp only at he
      rw [List.take_succ_eq_append_getElem hi'] at he
      rcases List.mem_append.1 he with he | he
      · exact hr e he
      · rw [List.mem_singleton.1 he, ← getD_of hi']; exact hg⟩ (by dsimp only; omega))
  · have hil : i = L.length := by omega
    rw [hil, List.take_length] at hr
    refine rt ?_
    refine ⟨_, ⟨⟨-1, rfl, ?_⟩, rfl⟩, _, by repeat constructor⟩
    constructor
    · intro h; omega
    · intro h
      rw [List.any_eq_true] at h
      obtain ⟨e, he, h⟩ := h
      rw [hr e he] at h; cases h
theorem containsFunc_tr (lv : Value) (L : List Ent) (hl : L.length ≤ 1000000) : Tr Tryz.prog 55 [lv, .func (.func 56) #[] #[]] [sl 70 entE lv L]
    fun v Γ => v = .bool (L.any fun e => !e.right) ∧ Γ = [sl 70 entE lv L] := by
  refine Tr_of_J Tryz.func55 follows rfl Tryz.ntmps55 (by simp) fun B F => ?_
  repeat' (first | (refine cl (indexFunc_tr lv L hl) ?_; rintro r Γ' ⟨⟨n, rfl, hn⟩, rfl⟩; refine n1 ?_) | refine mv ?_ | refine asn ?_ | refine jn ?_ | refine nl ?_ | refine ld rfl ?_ | refine nc ?_ | refine f0 ?_ | refine xt2 ?_ | refine sq ?_ | refine rg ?_ | refine lnb ?_ | refine lls rfl ?_ | refine ad ?_ | refine sb ?_ | refine lss ?_ | refine eql ?_ | refine neq ?_ | refine gtr ?_ | refine geq ?_ | refine leq ?_ | refine nt ?_ | refine pen ?_ | refine pnn ?_ | refine p1 ?_ | refine p0 ?_ | refine sk2 ?_ | refine kp ?_ | refine ct ?_ | refine cf ?_ | (refine cd (fun hc => ?_) (fun hc => ?_) <;> try (exfalso; omega)) | (refine cn (fun hc => ?_) (fun hc => ?_) <;> try (exfalso; omega)) | refine bl ?_ | refine ib ?_ | refine xt ?_ | refine bx (fun b_ => ?_) | refine al (fun b_ => ?_) | refine sr rfl ?_ | refine la rfl ?_ | refine ixa rfl rfl ?_ | refine fe ?_ | refine lde rfl ?_ | refine lae rfl ?_ | refine fa ?_ | refine bld ?_ | refine mf2 ?_ | refine seq ?_ | refine sne ?_ | refine cc ?_ | refine ixb ?_ | refine slb ?_ | refine slbl ?_ | refine slbh ?_ | refine cv ?_ | refine mx ?_ | refine mn ?_ | refine ml ?_ | refine af_ ?_ | (refine gd (fun hc => ?_) (fun hc => ?_) <;> try (exfalso; omega)) | (refine gn (fun hc => ?_) (fun hc => ?_) <;> try (exfalso; omega)) | refine aw ?_ | refine pes ?_ | refine pns ?_ | refine sw ?_ | refine ng ?_ | refine aeq ?_ | refine ane ?_ | refine sli rfl ?_ | refine slil rfl ?_ | refine slih rfl ?_ | refine cb (fun hc => ?_) (fun hc => ?_) | refine gs (fun hc => ?_) (fun hc => ?_))
  refine rt ?_
  refine ⟨_, ⟨?_, rfl⟩, _, by repeat constructor⟩
  show Value.bool _ = _
  congr 1
  rw [Bool.eq_iff_iff, decide_eq_true_iff]; exact hn
theorem index_tr (lv : Value) (L : List Nm) (x : Nm) (hl : L.length ≤ 1000000) : Tr Tryz.prog 150 [lv, vs x] [sl 9 strE lv L]
    fun v Γ => (∃ n : Int, v = .int .i64 n ∧ (0 ≤ n ↔ x ∈ L)) ∧ Γ = [sl 9 strE lv L] := by
  refine Tr_of_J Tryz.func150 follows rfl Tryz.ntmps150 (by simp) fun B F => ?_
  repeat' (first | refine mv ?_ | refine asn ?_ | refine jn ?_ | refine nl ?_ | refine ld rfl ?_ | refine nc ?_ | refine f0 ?_ | refine xt2 ?_ | refine sq ?_ | refine rg ?_ | refine lnb ?_ | refine lls rfl ?_ | refine ad ?_ | refine sb ?_ | refine lss ?_ | refine eql ?_ | refine neq ?_ | refine gtr ?_ | refine geq ?_ | refine leq ?_ | refine nt ?_ | refine pen ?_ | refine pnn ?_ | refine p1 ?_ | refine p0 ?_ | refine sk2 ?_ | refine kp ?_ | refine ct ?_ | refine cf ?_ | (refine cd (fun hc => ?_) (fun hc => ?_) <;> try (exfalso; omega)) | (refine cn (fun hc => ?_) (fun hc => ?_) <;> try (exfalso; omega)) | refine bl ?_ | refine ib ?_ | refine xt ?_ | refine bx (fun b_ => ?_) | refine al (fun b_ => ?_) | refine sr rfl ?_ | refine la rfl ?_ | refine ixa rfl rfl ?_ | refine fe ?_ | refine lde rfl ?_ | refine lae rfl ?_ | refine fa ?_ | refine bld ?_ | refine mf2 ?_ | refine seq ?_ | refine sne ?_ | refine cc ?_ | refine ixb ?_ | refine slb ?_ | refine slbl ?_ | refine slbh ?_ | refine cv ?_ | refine mx ?_ | refine mn ?_ | refine ml ?_ | refine af_ ?_ | (refine gd (fun hc => ?_) (fun hc => ?_) <;> try (exfalso; omega)) | (refine gn (fun hc => ?_) (fun hc => ?_) <;> try (exfalso; omega)) | refine aw ?_ | refine pes ?_ | refine pns ?_ | refine sw ?_ | refine ng ?_ | refine aeq ?_ | refine ane ?_ | refine sli rfl ?_ | refine slil rfl ?_ | refine slih rfl ?_ | refine cb (fun hc => ?_) (fun hc => ?_) | refine gs (fun hc => ?_) (fun hc => ?_))
  refine lp (α := Nat × Int) (fun y => [(0, lv), (1, vs x), (7, .int .i64 L.length), (8, .int .i64 y.2)]) (fun y => [sl 9 strE lv L]) (fun y => y.2 = (y.1 : Int) ∧ y.1 ≤ L.length ∧ x ∉ L.take y.1) (fun y => L.length - y.1) (0, 0) ?_ ⟨rfl, Nat.zero_le _, by simp⟩
  rintro ⟨i, n⟩ ⟨hn, hi, hr⟩ again
  dsimp only at hn hi hr again ⊢
  subst hn
  repeat' (first | refine mv ?_ | refine asn ?_ | refine jn ?_ | refine nl ?_ | refine ld rfl ?_ | refine nc ?_ | refine f0 ?_ | refine xt2 ?_ | refine sq ?_ | refine rg ?_ | refine lnb ?_ | refine lls rfl ?_ | refine ad ?_ | refine sb ?_ | refine lss ?_ | refine eql ?_ | refine neq ?_ | refine gtr ?_ | refine geq ?_ | refine leq ?_ | refine nt ?_ | refine pen ?_ | refine pnn ?_ | refine p1 ?_ | refine p0 ?_ | refine sk2 ?_ | refine kp ?_ | refine ct ?_ | refine cf ?_ | (refine cd (fun hc => ?_) (fun hc => ?_) <;> try (exfalso; omega)) | (refine cn (fun hc => ?_) (fun hc => ?_) <;> try (exfalso; omega)) | refine bl ?_ | refine ib ?_ | refine xt ?_ | refine bx (fun b_ => ?_) | refine al (fun b_ => ?_) | refine sr rfl ?_ | refine la rfl ?_ | refine ixa rfl rfl ?_ | refine fe ?_ | refine lde rfl ?_ | refine lae rfl ?_ | refine fa ?_ | refine bld ?_ | refine mf2 ?_ | refine seq ?_ | refine sne ?_ | refine cc ?_ | refine ixb ?_ | refine slb ?_ | refine slbl ?_ | refine slbh ?_ | refine cv ?_ | refine mx ?_ | refine mn ?_ | refine ml ?_ | refine af_ ?_ | (refine gd (fun hc => ?_) (fun hc => ?_) <;> try (exfalso; omega)) | (refine gn (fun hc => ?_) (fun hc => ?_) <;> try (exfalso; omega)) | refine aw ?_ | refine pes ?_ | refine pns ?_ | refine sw ?_ | refine ng ?_ | refine aeq ?_ | refine ane ?_ | refine sli rfl ?_ | refine slil rfl ?_ | refine slih rfl ?_ | refine cb (fun hc => ?_) (fun hc => ?_) | refine gs (fun hc => ?_) (fun hc => ?_))
  · have hi' : i < L.length := by omega
    have hx : x = L.getD i [] := by assumption
    refine rt ?_
    refine ⟨_, ⟨⟨i, rfl, ?_⟩, rfl⟩, _, by repeat constructor⟩
    constructor
    · intro _; rw [hx, List.getD_eq_getElem?_getD, List.getElem?_eq_getElem hi']; exact List.getElem_mem hi'
    · intro _; omega
  · have hi' : i < L.length := by omega
    have hx : ¬ x = L.getD i [] := by assumption
    exact ag (again (i + 1, (i : Int) + 1) ⟨by dsimp only; omega, hi', by
      intro he
      dsimp only at he
      rw [List.take_succ_eq_append_getElem hi'] at he
      rcases List.mem_append.1 he with he | he
      · exact hr he
      · apply hx; rw [List.getD_eq_getElem?_getD, List.getElem?_eq_getElem hi']; exact List.mem_singleton.1 he⟩ (by dsimp only; omega))
  · have hil : i = L.length := by omega
    rw [hil, List.take_length] at hr
    refine rt ?_
    refine ⟨_, ⟨⟨-1, rfl, ?_⟩, rfl⟩, _, by repeat constructor⟩
    constructor
    · intro h; omega
    · intro h; exact absurd h hr
theorem contains_tr (lv : Value) (L : List Nm) (x : Nm) (hl : L.length ≤ 1000000) : Tr Tryz.prog 99 [lv, vs x] [sl 9 strE lv L]
    fun v Γ => v = .bool (decide (x ∈ L)) ∧ Γ = [sl 9 strE lv L] := by
  refine Tr_of_J Tryz.func99 follows rfl Tryz.ntmps99 (by simp) fun B F => ?_
  repeat' (first | (refine cl (index_tr lv L x hl) ?_; rintro r Γ' ⟨⟨n, rfl, hn⟩, rfl⟩; refine n1 ?_) | refine mv ?_ | refine asn ?_ | refine jn ?_ | refine nl ?_ | refine ld rfl ?_ | refine nc ?_ | refine f0 ?_ | refine xt2 ?_ | refine sq ?_ | refine rg ?_ | refine lnb ?_ | refine lls rfl ?_ | refine ad ?_ | refine sb ?_ | refine lss ?_ | refine eql ?_ | refine neq ?_ | refine gtr ?_ | refine geq ?_ | refine leq ?_ | refine nt ?_ | refine pen ?_ | refine pnn ?_ | refine p1 ?_ | refine p0 ?_ | refine sk2 ?_ | refine kp ?_ | refine ct ?_ | refine cf ?_ | (refine cd (fun hc => ?_) (fun hc => ?_) <;> try (exfalso; omega)) | (refine cn (fun hc => ?_) (fun hc => ?_) <;> try (exfalso; omega)) | refine bl ?_ | refine ib ?_ | refine xt ?_ | refine bx (fun b_ => ?_) | refine al (fun b_ => ?_) | refine sr rfl ?_ | refine la rfl ?_ | refine ixa rfl rfl ?_ | refine fe ?_ | refine lde rfl ?_ | refine lae rfl ?_ | refine fa ?_ | refine bld ?_ | refine mf2 ?_ | refine seq ?_ | refine sne ?_ | refine cc ?_ | refine ixb ?_ | refine slb ?_ | refine slbl ?_ | refine slbh ?_ | refine cv ?_ | refine mx ?_ | refine mn ?_ | refine ml ?_ | refine af_ ?_ | (refine gd (fun hc => ?_) (fun hc => ?_) <;> try (exfalso; omega)) | (refine gn (fun hc => ?_) (fun hc => ?_) <;> try (exfalso; omega)) | refine aw ?_ | refine pes ?_ | refine pns ?_ | refine sw ?_ | refine ng ?_ | refine aeq ?_ | refine ane ?_ | refine sli rfl ?_ | refine slil rfl ?_ | refine slih rfl ?_ | refine cb (fun hc => ?_) (fun hc => ?_) | refine gs (fun hc => ?_) (fun hc => ?_))
  refine rt ?_
  refine ⟨_, ⟨?_, rfl⟩, _, by repeat constructor⟩
  show Value.bool _ = _
  congr 1
  rw [Bool.eq_iff_iff, decide_eq_true_iff, decide_eq_true_iff]; exact hn
theorem still_tr (w d m : Nat) (h : Hrd) (ev sv uv : Value) (S : List Seg) (D : DiskS) (hD : D.Ok) (hS : S ≠ []) (hSl : S.length ≤ 100000) (hn0 : 0 ≤ (lastS S).number) (hn1 : (lastS S).number < 100) :
    Tr Tryz.prog 59 [.pointer (some ⟨w, 0, none⟩), uv] [blk w (lcell d h ev sv), sl 94 segE sv S, blk d (dcell m D), mp fmap m D.files]
      fun v Γ => v = (if segFile (lastS S) ∈ D.files.map (·.1) then sv else uv) ∧ Γ = [blk w (lcell d h ev sv), sl 94 segE sv S, blk d (dcell m D), mp fmap m D.files] := by
  have hS0 : 0 < S.length := List.length_pos_iff.2 hS
  have hlen : (sortN (D.files.map (·.1))).length ≤ 1000000 := by
    have := hD.ct
    unfold sortN; rw [List.length_mergeSort, List.length_map]; omega
  refine Tr_of_J Tryz.func59 follows rfl Tryz.ntmps59 (by simp) fun B F => ?_
  repeat' (first | refine JS_cons rfl rfl (RO_lae rfl (by omega) (by repeat constructor)) ?_ | (refine cl (list_tr d m D hD) ?_; rintro r Γ' rfl; refine n3 ?_) | (refine cl (segName_tr (lastS S) hn0 hn1) ?_; rintro r2 Γ' ⟨rfl, rfl⟩; refine n0 ?_) | (refine cl (contains_tr _ (sortN (D.files.map (·.1))) (segFile (lastS S)) hlen) ?_; rintro r3 Γ' ⟨rfl, rfl⟩; refine n1 ?_) | refine mv ?_ | refine asn ?_ | refine jn ?_ | refine nl ?_ | refine ld rfl ?_ | refine nc ?_ | refine f0 ?_ | refine xt2 ?_ | refine sq ?_ | refine rg ?_ | refine lnb ?_ | refine lls rfl ?_ | refine ad ?_ | refine sb ?_ | refine lss ?_ | refine eql ?_ | refine neq ?_ | refine gtr ?_ | refine geq ?_ | refine leq ?_ | refine nt ?_ | refine pen ?_ | refine pnn ?_ | refine p1 ?_ | refine p0 ?_ | refine sk2 ?_ | refine kp ?_ | refine ct ?_ | refine cf ?_ | (refine cd (fun hc => ?_) (fun hc => ?_) <;> try (exfalso; omega)) | (refine cn (fun hc => ?_) (fun hc => ?_) <;> try (exfalso; omega)) | refine bl ?_ | refine ib ?_ | refine xt ?_ | refine bx (fun b_ => ?_) | refine al (fun b_ => ?_) | refine sr rfl ?_ | refine la rfl ?_ | refine ixa rfl rfl ?_ | refine fe ?_ | refine lde rfl ?_ | refine lae rfl ?_ | refine fa ?_ | refine bld ?_ | refine mf2 ?_ | refine seq ?_ | refine sne ?_ | refine cc ?_ | refine ixb ?_ | refine slb ?_ | refine slbl ?_ | refine slbh ?_ | refine cv ?_ | refine mx ?_ | refine mn ?_ | refine ml ?_ | refine af_ ?_ | (refine gd (fun hc => ?_) (fun hc => ?_) <;> try (exfalso; omega)) | (refine gn (fun hc => ?_) (fun hc => ?_) <;> try (exfalso; omega)) | refine aw ?_ | refine pes ?_ | refine pns ?_ | refine sw ?_ | refine ng ?_ | refine aeq ?_ | refine ane ?_ | refine sli rfl ?_ | refine slil rfl ?_ | refine slih rfl ?_ | refine cb (fun hc => ?_) (fun hc => ?_) | refine gs (fun hc => ?_) (fun hc => ?_) | refine J_draw (id := 1) [(0, true, []), (1, true, []), (2, true, []), (3, true, []), (5, true, []), (6, true, []), (7, true, []), (8, true, []), (9, true, []), (10, true, []), (11, true, []), (12, true, []), (13, true, []), (14, true, []), (15, true, []), (16, true, []), (4, false, [5, 6, 7, 8, 9, 10, 11, 12, 13, 14, 15, 16]), (17, false, []), (18, false, [])] (by kernel_rfl) ?_ | refine JS_cons rfl rfl (RO_move rfl) ?_ | refine JS_cons rfl rfl (RO_nilCheck rfl) ?_ | refine JS_cons rfl rfl (RO_fieldAddr0 rfl) ?_ | refine JS_cons rfl rfl (RO_load rfl (by rfl)) ?_ | refine JS_off rfl ?_ | refine JS_cons rfl rfl (RO_extract rfl rfl) ?_ | refine JS_cons rfl rfl (RO_not rfl) ?_ | refine JS_cons rfl rfl (RO_fieldAddr rfl) ?_ | refine JS_cons rfl rfl (RO_lnb rfl) ?_ | refine JS_cons rfl rfl (RO_lls rfl) ?_ | refine JS_cons rfl rfl (RO_add_in rfl rfl (by omega)) ?_ | refine JS_cons rfl rfl (RO_sub_in rfl rfl (by omega)) ?_ | refine JS_cons rfl rfl (RO_ixa rfl rfl (by omega)) ?_ | refine JS_cons rfl rfl (RO_fe rfl) ?_ | refine JS_cons rfl rfl (RO_lde rfl (by omega) rfl) ?_ | refine JS_cons rfl rfl (RO_slih rfl rfl (by omega)) ?_ | refine JS_cons rfl rfl (RO_slil rfl rfl (by omega)) ?_ | refine JS_offu rfl ?_ | refine JS_cons rfl rfl (RO_cc rfl rfl (by omega)) ?_ | refine JS_cons rfl rfl (RO_bld rfl (by (repeat (first | exact FillS.nil | (apply FillS.cons; rfl; rfl; constructor; rfl; (focus repeat constructor)))))) ?_ | refine JS_cons rfl rfl (RO_lae rfl (by omega) (by repeat constructor)) ?_ | refine JS_cons rfl rfl (RO_loadAgg rfl (by repeat constructor)) ?_)
  · have hc : segFile (lastS S) ∈ D.files.map (·.1) := by
      have : segFile (lastS S) ∈ sortN (D.files.map (·.1)) := by assumption
      exact List.mem_mergeSort.1 this
    refine rt ?_
    exact ⟨_, ⟨by rw [if_pos hc]; rfl, rfl⟩, _, by repeat constructor⟩
  · have hc : ¬ segFile (lastS S) ∈ D.files.map (·.1) := by
      have : ¬ segFile (lastS S) ∈ sortN (D.files.map (·.1)) := by assumption
      exact fun h => this (List.mem_mergeSort.2 h)
    refine rt ?_
    exact ⟨_, ⟨by rw [if_neg hc]; rfl, rfl⟩, _, by repeat constructor⟩
end Go.Proofs.YtaeefjcbmkiiaaaGreatDoor
/- The log: all entries forgotten; a log opened on an empty disk. -/
namespace Go.Proofs.YtaeefjcbmkiiaaaGreatDoor
open Go Sl
attribute [local irreducible] J JR JS RO CR Arr Sat Tr sat blk
set_option linter.unusedVariables false
set_option maxHeartbeats 400000
set_option maxRecDepth 4000
theorem resetText_len : resetText.length ≤ 10 := by
  have h1 := encInt_length (n := 3) (by decide) (by decide)
  simp only [resetText, encInts, List.flatMap_cons, List.flatMap_nil, List.append_nil]
  omega
theorem reset_tr (w d m : Nat) (W : LogS) (ev sv : Value) (D : DiskS) (hD : D.Ok) (hh : W.hard.In) (hS : W.segs ≠ []) (hSl : W.segs.length ≤ 100000) (hn0 : 0 ≤ (lastS W.segs).number) (hn1 : (lastS W.segs).number < 100) (hz0 : 0 ≤ (lastS W.segs).size) (hz1 : (lastS W.segs).size ≤ 100000000) :
    Tr Tryz.prog 34 [.pointer (some ⟨w, 0, none⟩)] [blk w (lcell d W.hard ev sv), sl 70 entE ev W.ents, sl 94 segE sv W.segs, blk d (dcell m D), mp fmap m D.files]
      fun v Γ => ∃ ev', v = .int .i64 (W.reset D).1 ∧ Γ = [blk w (lcell d (W.reset D).2.1.hard ev' sv), sl 70 entE ev' (W.reset D).2.1.ents, sl 94 segE sv (W.reset D).2.1.segs, blk d (dcell m (W.reset D).2.2), mp fmap m (W.reset D).2.2.files] := by
  have hps : ∀ p ∈ [resetText], p.length ≤ 65536 := fun p hp => by rw [List.mem_singleton.1 hp]; have := resetText_len; omega
  refine Tr_of_J Tryz.func34 follows rfl Tryz.ntmps34 (by simp) fun B F => ?_
  repeat' (first | refine bsl (e := intE) (X := [3]) (fun v2 => ?_) (.cona rfl rfl .nil) | (refine cl (Int_tr v2 [3] (by simp) (by decide) (by simp)) ?_; rintro r Γ' ⟨rfl, rfl⟩; refine n1 ?_) | refine bsl (e := strE) (X := [resetText]) (fun v3 => ?_) (.cona rfl rfl .nil) | (refine cl (lay_tr w d m W.hard ev sv v3 W.segs D hD W.hard hh false [resetText] hps (by simp) hS hSl hn0 hn1 hz0 hz1 (.inr (by simp))) ?_; rintro r Γ' ⟨rfl, rfl⟩; refine n4 ?_) | refine mv ?_ | refine asn ?_ | refine jn ?_ | refine nl ?_ | refine ld rfl ?_ | refine nc ?_ | refine f0 ?_ | refine xt2 ?_ | refine sq ?_ | refine rg ?_ | refine lnb ?_ | refine lls rfl ?_ | refine ad ?_ | refine sb ?_ | refine lss ?_ | refine eql ?_ | refine neq ?_ | refine gtr ?_ | refine geq ?_ | refine leq ?_ | refine nt ?_ | refine pen ?_ | refine pnn ?_ | refine p1 ?_ | refine p0 ?_ | refine sk2 ?_ | refine kp ?_ | refine ct ?_ | refine cf ?_ | (refine cd (fun hc => ?_) (fun hc => ?_) <;> try (exfalso; omega)) | (refine cn (fun hc => ?_) (fun hc => ?_) <;> try (exfalso; omega)) | refine bl ?_ | refine ib ?_ | refine xt ?_ | refine bx (fun b_ => ?_) | refine al (fun b_ => ?_) | refine sr rfl ?_ | refine la rfl ?_ | refine ixa rfl rfl ?_ | refine fe ?_ | refine lde rfl ?_ | refine lae rfl ?_ | refine fa ?_ | refine bld ?_ | refine mf2 ?_ | refine seq ?_ | refine sne ?_ | refine cc ?_ | refine ixb ?_ | refine slb ?_ | refine slbl ?_ | refine slbh ?_ | refine cv ?_ | refine mx ?_ | refine mn ?_ | refine ml ?_ | refine af_ ?_ | (refine gd (fun hc => ?_) (fun hc => ?_) <;> try (exfalso; omega)) | (refine gn (fun hc => ?_) (fun hc => ?_) <;> try (exfalso; omega)) | refine aw ?_ | refine pes ?_ | refine pns ?_ | refine sw ?_ | refine ng ?_ | refine aeq ?_ | refine ane ?_ | refine sli rfl ?_ | refine slil rfl ?_ | refine slih rfl ?_ | refine cb (fun hc => ?_) (fun hc => ?_) | refine gs (fun hc => ?_) (fun hc => ?_) | refine J_draw (id := 1) [(0, true, []), (1, true, []), (2, true, []), (3, true, []), (4, true, []), (5, false, [0, 1, 2, 3, 4]), (6, false, [0, 1, 2, 3, 4]), (7, false, [0, 1, 2, 3, 4]), (8, false, []), (9, true, [])] (by kernel_rfl) ?_ | refine JS_cons rfl rfl (RO_move rfl) ?_ | refine JS_cons rfl rfl (RO_nilCheck rfl) ?_ | refine JS_cons rfl rfl (RO_fieldAddr0 rfl) ?_ | refine JS_cons rfl rfl (RO_load rfl (by rfl)) ?_ | refine JS_off rfl ?_ | refine JS_cons rfl rfl (RO_extract rfl rfl) ?_ | refine JS_cons rfl rfl (RO_not rfl) ?_ | refine JS_cons rfl rfl (RO_fieldAddr rfl) ?_ | refine JS_cons rfl rfl (RO_lnb rfl) ?_ | refine JS_cons rfl rfl (RO_lls rfl) ?_ | refine JS_cons rfl rfl (RO_add_in rfl rfl (by omega)) ?_ | refine JS_cons rfl rfl (RO_sub_in rfl rfl (by omega)) ?_ | refine JS_cons rfl rfl (RO_ixa rfl rfl (by omega)) ?_ | refine JS_cons rfl rfl (RO_fe rfl) ?_ | refine JS_cons rfl rfl (RO_lde rfl (by omega) rfl) ?_ | refine JS_cons rfl rfl (RO_slih rfl rfl (by omega)) ?_ | refine JS_cons rfl rfl (RO_slil rfl rfl (by omega)) ?_ | refine JS_offu rfl ?_ | refine JS_cons rfl rfl (RO_cc rfl rfl (by omega)) ?_ | refine JS_cons rfl rfl (RO_bld rfl (by (repeat (first | exact FillS.nil | (apply FillS.cons; rfl; rfl; constructor; rfl; (focus repeat constructor)))))) ?_ | refine JS_cons rfl rfl (RO_lae rfl (by omega) (by repeat constructor)) ?_ | refine JS_cons rfl rfl (RO_loadAgg rfl (by repeat constructor)) ?_)
  · have hc1 : layE W.segs D W.hard false [resetText] ≠ 0 := by assumption
    have e : W.reset D = (layE W.segs D W.hard false [resetText], { W with segs := layS W.segs D W.hard false [resetText] }, layD W.segs D W.hard false [resetText]) := if_pos hc1
    rw [e]
    refine rt ?_
    exact ⟨_, ⟨_, rfl, rfl⟩, _, by repeat constructor⟩
  · have hc1 : ¬ layE W.segs D W.hard false [resetText] ≠ 0 := by
      have : layE W.segs D W.hard false [resetText] = 0 := by assumption
      simp [this]
    have e : W.reset D = (0, { W with segs := layS W.segs D W.hard false [resetText], ents := [] }, layD W.segs D W.hard false [resetText]) := if_neg hc1
    rw [e]
    refine J_sat (Γ' := sl 70 entE (.slice none 0 0) [] :: _) ?_ fun w hS => sl_nil hS
    refine rt ?_
    exact ⟨_, ⟨_, rfl, rfl⟩, _, by repeat constructor⟩
theorem sort0_tr : Tr Tryz.prog 49 [.slice none 0 0] [] fun r Γ => r = .tuple #[] ∧ Γ = [] :=
  Tr.of_same fun w => Any.slices_Sort_int_none Tryz.lays189 none 0 w
/-- Open, where no file lies: the first segment is laid down. -/
theorem open0_tr (d m : Nat) (D : DiskS) (hD : D.Ok) (h0 : D.files = []) :
    Tr Tryz.prog 26 [.pointer (some ⟨d, 0, none⟩)] [blk d (dcell m D), mp fmap m D.files]
      fun v Γ => (layE [⟨1, 0, 0⟩] D ⟨0, 0⟩ true [] ≠ 0 ∧ v = .tuple #[.pointer none, .int .i64 (layE [⟨1, 0, 0⟩] D ⟨0, 0⟩ true [])] ∧ Γ = [blk d (dcell m (layD [⟨1, 0, 0⟩] D ⟨0, 0⟩ true [])), mp fmap m (layD [⟨1, 0, 0⟩] D ⟨0, 0⟩ true []).files])
        ∨ (layE [⟨1, 0, 0⟩] D ⟨0, 0⟩ true [] = 0 ∧ ∃ w sv, v = .tuple #[.pointer (some ⟨w, 0, none⟩), .int .i64 0] ∧ Γ = [blk w (lcell d ⟨0, 0⟩ (.slice none 0 0) sv), sl 70 entE (.slice none 0 0) [], sl 94 segE sv (layS [⟨1, 0, 0⟩] D ⟨0, 0⟩ true []), blk d (dcell m (layD [⟨1, 0, 0⟩] D ⟨0, 0⟩ true [])), mp fmap m (layD [⟨1, 0, 0⟩] D ⟨0, 0⟩ true []).files]) := by
  have hk : sortN (D.files.map (·.1)) = [] := by rw [h0]; simp [sortN]
  have hh : (⟨0, 0⟩ : Hrd).In := ⟨by decide, by decide⟩
  have hls : lastS [⟨1, 0, 0⟩] = ⟨1, 0, 0⟩ := rfl
  refine Tr_of_J Tryz.func26 follows rfl Tryz.ntmps26 (by simp) fun B F => ?_
  repeat' (first | (refine cl (list_tr d m D hD) ?_; rintro v1 Γ' rfl; rw [hk]; refine n3 ?_) | refine mv ?_ | refine asn ?_ | refine jn ?_ | refine nl ?_ | refine ld rfl ?_ | refine nc ?_ | refine f0 ?_ | refine xt2 ?_ | refine sq ?_ | refine rg ?_ | refine lnb ?_ | refine lls rfl ?_ | refine ad ?_ | refine sb ?_ | refine lss ?_ | refine eql ?_ | refine neq ?_ | refine gtr ?_ | refine geq ?_ | refine leq ?_ | refine nt ?_ | refine pen ?_ | refine pnn ?_ | refine p1 ?_ | refine p0 ?_ | refine sk2 ?_ | refine kp ?_ | refine ct ?_ | refine cf ?_ | (refine cd (fun hc => ?_) (fun hc => ?_) <;> try (exfalso; omega)) | (refine cn (fun hc => ?_) (fun hc => ?_) <;> try (exfalso; omega)) | refine bl ?_ | refine ib ?_ | refine xt ?_ | refine bx (fun b_ => ?_) | refine al (fun b_ => ?_) | refine sr rfl ?_ | refine la rfl ?_ | refine ixa rfl rfl ?_ | refine fe ?_ | refine lde rfl ?_ | refine lae rfl ?_ | refine fa ?_ | refine bld ?_ | refine mf2 ?_ | refine seq ?_ | refine sne ?_ | refine cc ?_ | refine ixb ?_ | refine slb ?_ | refine slbl ?_ | refine slbh ?_ | refine cv ?_ | refine mx ?_ | refine mn ?_ | refine ml ?_ | refine af_ ?_ | (refine gd (fun hc => ?_) (fun hc => ?_) <;> try (exfalso; omega)) | (refine gn (fun hc => ?_) (fun hc => ?_) <;> try (exfalso; omega)) | refine aw ?_ | refine pes ?_ | refine pns ?_ | refine sw ?_ | refine ng ?_ | refine aeq ?_ | refine ane ?_ | refine sli rfl ?_ | refine slil rfl ?_ | refine slih rfl ?_ | refine cb (fun hc => ?_) (fun hc => ?_) | refine gs (fun hc => ?_) (fun hc => ?_))
  refine J_sat (Γ' := sl 9 strE (.slice none 0 0) [] :: _) ?_ fun w hS => sl_nil hS
  refine lp (α := Unit) (fun y => [(0, .pointer (some ⟨d, 0, none⟩)), (4, .pointer (some ⟨b_, 0, none⟩)), (5, .slice none 0 0), (18, .int .i64 0), (19, .int .i64 0)]) (fun y => [sl 9 strE (.slice none 0 0) [], blk b_ (lcell d ⟨0, 0⟩ (.slice none 0 0) (.slice none 0 0)), blk d (dcell m D), mp fmap m D.files]) (fun y => True) (fun y => 0) () ?_ trivial
  rintro _ _ again
  clear again
  repeat' (first | (refine cl sort0_tr ?_; rintro v1 Γ' ⟨rfl, rfl⟩; refine n0 ?_) | refine bsl (e := segE) (X := [⟨1, 0, 0⟩]) (fun v2 => ?_) (.cona rfl rfl .nil) | refine sro rfl rfl ?_ | (refine cl (lay_tr b_ d m ⟨0, 0⟩ (.slice none 0 0) v2 (.slice none 0 0) [⟨1, 0, 0⟩] D hD ⟨0, 0⟩ hh true [] (by simp) (by simp) (by simp) (by simp) (by decide) (by decide) (by decide) (by decide) (.inl (.inl rfl))) ?_; rintro r Γ' ⟨rfl, rfl⟩; refine n4 ?_) | refine mv ?_ | refine asn ?_ | refine jn ?_ | refine nl ?_ | refine ld rfl ?_ | refine nc ?_ | refine f0 ?_ | refine xt2 ?_ | refine sq ?_ | refine rg ?_ | refine lnb ?_ | refine lls rfl ?_ | refine ad ?_ | refine sb ?_ | refine lss ?_ | refine eql ?_ | refine neq ?_ | refine gtr ?_ | refine geq ?_ | refine leq ?_ | refine nt ?_ | refine pen ?_ | refine pnn ?_ | refine p1 ?_ | refine p0 ?_ | refine sk2 ?_ | refine kp ?_ | refine ct ?_ | refine cf ?_ | (refine cd (fun hc => ?_) (fun hc => ?_) <;> try (exfalso; omega)) | (refine cn (fun hc => ?_) (fun hc => ?_) <;> try (exfalso; omega)) | refine bl ?_ | refine ib ?_ | refine xt ?_ | refine bx (fun b_ => ?_) | refine al (fun b_ => ?_) | refine sr rfl ?_ | refine la rfl ?_ | refine ixa rfl rfl ?_ | refine fe ?_ | refine lde rfl ?_ | refine lae rfl ?_ | refine fa ?_ | refine bld ?_ | refine mf2 ?_ | refine seq ?_ | refine sne ?_ | refine cc ?_ | refine ixb ?_ | refine slb ?_ | refine slbl ?_ | refine slbh ?_ | refine cv ?_ | refine mx ?_ | refine mn ?_ | refine ml ?_ | refine af_ ?_ | (refine gd (fun hc => ?_) (fun hc => ?_) <;> try (exfalso; omega)) | (refine gn (fun hc => ?_) (fun hc => ?_) <;> try (exfalso; omega)) | refine aw ?_ | refine pes ?_ | refine pns ?_ | refine sw ?_ | refine ng ?_ | refine aeq ?_ | refine ane ?_ | refine sli rfl ?_ | refine slil rfl ?_ | refine slih rfl ?_ | refine cb (fun hc => ?_) (fun hc => ?_) | refine gs (fun hc => ?_) (fun hc => ?_))
  · refine rt ?_
    exact ⟨_, .inl ⟨by assumption, rfl, rfl⟩, _, by repeat constructor⟩
  · refine J_sat (Γ' := sl 70 entE (.slice none 0 0) [] :: _) ?_ fun w hS => sl_nil hS
    refine rt ?_
    exact ⟨_, .inr ⟨by assumption, _, _, rfl, rfl⟩, _, by repeat constructor⟩
end Go.Proofs.YtaeefjcbmkiiaaaGreatDoor
/- The log: a save: what may not be saved; nothing to be saved; saved. -/
namespace Go.Proofs.YtaeefjcbmkiiaaaGreatDoor
open Go Sl
attribute [local irreducible] J JR JS RO CR Arr Sat Tr sat blk
set_option linter.unusedVariables false
set_option maxHeartbeats 800000
set_option maxRecDepth 4000
theorem save_arg (w d m : Nat) (lv : Value) (W : LogS) (ev sv : Value) (D : DiskS) (h : Hrd) (l : List Ent) (hl : l.length ≤ 100) (hb : h.term < 0 ∨ h.vote < 0 ∨ (l.any fun e => !e.right) = true) :
    Tr Tryz.prog 31 [.pointer (some ⟨w, 0, none⟩), hrdV h, lv] [sl 70 entE lv l, blk w (lcell d W.hard ev sv), sl 70 entE ev W.ents, sl 94 segE sv W.segs, blk d (dcell m D), mp fmap m D.files]
      fun v Γ => v = .int .i64 1 ∧ Γ = [blk w (lcell d W.hard ev sv), sl 70 entE ev W.ents, sl 94 segE sv W.segs, blk d (dcell m D), mp fmap m D.files] := by
  refine Tr_of_J Tryz.func31 follows rfl Tryz.ntmps31 (by simp) fun B F => ?_
  repeat' (first | (refine cl (containsFunc_tr lv l (by omega)) ?_; rintro r Γ' ⟨rfl, rfl⟩; refine n1 ?_) | refine mv ?_ | refine asn ?_ | refine jn ?_ | refine nl ?_ | refine ld rfl ?_ | refine nc ?_ | refine f0 ?_ | refine xt2 ?_ | refine sq ?_ | refine rg ?_ | refine lnb ?_ | refine lls rfl ?_ | refine ad ?_ | refine sb ?_ | refine lss ?_ | refine eql ?_ | refine neq ?_ | refine gtr ?_ | refine geq ?_ | refine leq ?_ | refine nt ?_ | refine pen ?_ | refine pnn ?_ | refine p1 ?_ | refine p0 ?_ | refine sk2 ?_ | refine kp ?_ | refine ct ?_ | refine cf ?_ | (refine cd (fun hc => ?_) (fun hc => ?_) <;> try (exfalso; omega)) | (refine cn (fun hc => ?_) (fun hc => ?_) <;> try (exfalso; omega)) | refine bl ?_ | refine ib ?_ | refine xt ?_ | refine bx (fun b_ => ?_) | refine al (fun b_ => ?_) | refine sr rfl ?_ | refine la rfl ?_ | refine ixa rfl rfl ?_ | refine fe ?_ | refine lde rfl ?_ | refine lae rfl ?_ | refine fa ?_ | refine bld ?_ | refine mf2 ?_ | refine seq ?_ | refine sne ?_ | refine cc ?_ | refine ixb ?_ | refine slb ?_ | refine slbl ?_ | refine slbh ?_ | refine cv ?_ | refine mx ?_ | refine mn ?_ | refine ml ?_ | refine af_ ?_ | (refine gd (fun hc => ?_) (fun hc => ?_) <;> try (exfalso; omega)) | (refine gn (fun hc => ?_) (fun hc => ?_) <;> try (exfalso; omega)) | refine aw ?_ | refine pes ?_ | refine pns ?_ | refine sw ?_ | refine ng ?_ | refine aeq ?_ | refine ane ?_ | refine sli rfl ?_ | refine slil rfl ?_ | refine slih rfl ?_ | refine cb (fun hc => ?_) (fun hc => ?_) | refine gs (fun hc => ?_) (fun hc => ?_) | refine J_draw (id := 11) [(0, true, []), (1, true, []), (2, true, []), (3, true, []), (4, true, []), (5, true, []), (6, true, []), (7, true, []), (8, true, []), (9, true, []), (10, true, [])] (by kernel_rfl) ?_ | refine J_draw2 (id := 16) [(0, true, []), (1, true, []), (3, true, []), (4, true, []), (5, true, []), (6, true, []), (2, false, [0, 3, 4, 5, 6]), (7, false, [0, 1]), (8, false, [0]), (9, true, []), (10, true, []), (11, false, [])] [(0, true, []), (1, true, []), (3, true, []), (4, true, []), (5, true, []), (6, true, []), (7, false, [0, 1]), (2, false, [0, 3, 4, 5, 6]), (8, false, [0]), (9, true, []), (10, true, []), (11, false, [])] (by kernel_rfl) ?_ ?_ | refine J_draw (id := 17) [(0, true, []), (1, true, []), (2, true, []), (3, true, []), (4, true, []), (5, true, []), (6, true, []), (7, true, []), (8, true, []), (9, false, []), (10, true, [])] (by kernel_rfl) ?_ | refine JS_cons rfl rfl (RO_move rfl) ?_ | refine JS_cons rfl rfl (RO_nilCheck rfl) ?_ | refine JS_cons rfl rfl (RO_fieldAddr0 rfl) ?_ | refine JS_cons rfl rfl (RO_load rfl (by rfl)) ?_ | refine JS_off rfl ?_ | refine JS_cons rfl rfl (RO_extract rfl rfl) ?_ | refine JS_cons rfl rfl (RO_not rfl) ?_ | refine JS_cons rfl rfl (RO_fieldAddr rfl) ?_ | refine JS_cons rfl rfl (RO_lnb rfl) ?_ | refine JS_cons rfl rfl (RO_lls rfl) ?_ | refine JS_cons rfl rfl (RO_add_in rfl rfl (by omega)) ?_ | refine JS_cons rfl rfl (RO_sub_in rfl rfl (by omega)) ?_ | refine JS_cons rfl rfl (RO_ixa rfl rfl (by omega)) ?_ | refine JS_cons rfl rfl (RO_fe rfl) ?_ | refine JS_cons rfl rfl (RO_lde rfl (by omega) rfl) ?_ | refine JS_cons rfl rfl (RO_slih rfl rfl (by omega)) ?_ | refine JS_cons rfl rfl (RO_slil rfl rfl (by omega)) ?_ | refine JS_offu rfl ?_ | refine JS_cons rfl rfl (RO_cc rfl rfl (by omega)) ?_ | refine JS_cons rfl rfl (RO_bld rfl (by (repeat (first | exact FillS.nil | (apply FillS.cons; rfl; rfl; constructor; rfl; (focus repeat constructor)))))) ?_ | refine JS_cons rfl rfl (RO_lae rfl (by omega) (by repeat constructor)) ?_ | refine JS_cons rfl rfl (RO_loadAgg rfl (by repeat constructor)) ?_)
  · refine rt ?_
    exact ⟨_, ⟨rfl, rfl⟩, _, by repeat constructor⟩
  · refine rt ?_
    exact ⟨_, ⟨rfl, rfl⟩, _, by repeat constructor⟩
  · refine rt ?_
    exact ⟨_, ⟨rfl, rfl⟩, _, by repeat constructor⟩
  · exfalso
    rcases hb with hb | hb | hb
    · exact absurd hb (by assumption)
    · exact absurd hb (by assumption)
    · have h3 : (l.any fun e => !e.right) = false := by assumption
      rw [hb] at h3; cases h3
theorem containsFunc0_tr (lv : Value) (L : List Ent) (hl : L.length ≤ 1000000) (hany : (L.any fun e => !e.right) = false) : Tr Tryz.prog 55 [lv, .func (.func 56) #[] #[]] [sl 70 entE lv L]
    fun v Γ => v = .bool false ∧ Γ = [sl 70 entE lv L] := by
  have := containsFunc_tr lv L hl
  rwa [hany] at this
theorem entText_len {e : Ent} (he : e.In) (hd : e.data.length ≤ 60000) : (entText e).length ≤ 50 + e.data.length := by
  have h2 := (encInt_length (n := 2) (by decide) (by decide)).2
  have h3 := (encInt_length he.i.1 he.i.2).2
  have h4 := (encInt_length he.t.1 he.t.2).2
  have h5 := (encInt_length he.k.1 he.k.2).2
  have h6 := (encInt_length (n := e.data.length) (by omega) (by omega)).2
  simp only [entText, encInts, encTexts, encText, List.flatMap_cons, List.flatMap_nil, List.length_append, List.append_nil]
  omega
/-! ### saved -/
theorem eqH (h g : Hrd) : eqCells [.int .i64 h.term, .int .i64 h.vote] [.int .i64 g.term, .int .i64 g.vote] = decide (h = g) := by
  obtain ⟨a, b⟩ := h
  obtain ⟨c, d⟩ := g
  simp only [eqCells, eqCell, Hrd.mk.injEq, Bool.and_true]
  by_cases h1 : a = c <;> by_cases h2 : b = d <;> simp [h1, h2]
theorem puts_take {V : LogS} {l : List Ent} {i : Nat} (hi : i < l.length) : puts V (l.take (i + 1)) = (puts V (l.take i)).put (l.getD i .none) := by
  unfold puts
  rw [List.take_succ_eq_append_getElem hi, List.foldl_append, getD_of hi]; rfl
theorem lastS_num {S : List Seg} (hS : S ≠ []) {i : Int} : (lastS (setTop S i)).number = (lastS S).number := by unfold setTop; rw [lastS_setLast hS]
theorem layS_len (S : List Seg) (D : DiskS) (h : Hrd) (tell : Bool) (ps : List (List UInt8)) : (layS S D h tell ps).length = S.length := by
  unfold layS; split
  · rfl
  · unfold grown; rw [setLast_length]
theorem layS_num {S : List Seg} (hS : S ≠ []) (D : DiskS) (h : Hrd) (tell : Bool) (ps : List (List UInt8)) : (lastS (layS S D h tell ps)).number = (lastS S).number := by
  unfold layS; split
  · rfl
  · unfold grown; rw [lastS_setLast hS]
theorem layD_ok {D : DiskS} (hD : D.Ok) (S : List Seg) (h : Hrd) (tell : Bool) (ps : List (List UInt8)) : (layD S D h tell ps).Ok := by
  unfold layD layA; split
  · exact hD.append _ _
  · exact (hD.append _ _).sync _
theorem ne_of_len {α : Type} {a b : List α} (h : a.length = b.length) (hb : b ≠ []) : a ≠ [] := by
  rintro rfl; exact hb (List.length_eq_zero_iff.1 h.symm)
theorem setTop_len (S : List Seg) (i : Int) : (setTop S i).length = S.length := by unfold setTop; rw [setLast_length]
theorem next_last (S : List Seg) : lastS (next S) = ⟨(lastS S).number + 1, 0, 0⟩ := lastS_end _ _
theorem ite_or {α : Type} {p : Prop} [Decidable p] {r a b : α} (h : r = if p then a else b) : (p ∧ r = a) ∨ (¬ p ∧ r = b) := by
  by_cases hp : p
  · exact .inl ⟨hp, by rw [h, if_pos hp]⟩
  · exact .inr ⟨hp, by rw [h, if_neg hp]⟩
theorem getD_last {α : Type} (X : List α) (t z : α) : (X ++ [t]).getD X.length z = t := by simp
/-- What holds while entries are put. -/
structure PutOk (V0 V : LogS) (i : Nat) : Prop where
  rise : Rise V.ents
  len : V.ents.length ≤ V0.ents.length + i
  slen : V.segs.length = V0.segs.length
  hd : V.hard = V0.hard
theorem PutOk.put {V0 V : LogS} {i : Nat} (h : PutOk V0 V i) {e : Ent} (he : e.In) (h0 : 0 < e.index) : PutOk V0 (V.put e) (i + 1) where
  rise := putE_rise h.rise he h0
  len := Nat.le_trans (putE_len _ _) (by have := h.len; omega)
  slen := (setTop_len _ _).trans h.slen
  hd := h.hd
theorem save_same (w d m : Nat) (lv : Value) (W : LogS) (ev sv : Value) (D : DiskS) (hD : D.Ok) (h : Hrd) (hh : h.In) (l : List Ent) (hl : l.length ≤ 100) (hli : ∀ e ∈ l, e.In ∧ e.data.length ≤ 60000) (h0 : 0 ≤ h.term) (h1 : 0 ≤ h.vote) (hany : (l.any fun e => !e.right) = false)
    (hS : W.segs ≠ []) (hSl : W.segs.length ≤ 1000) (hn0 : 0 ≤ (lastS W.segs).number) (hn1 : (lastS W.segs).number < 99) (hz0 : 0 ≤ (lastS W.segs).size) (hz1 : (lastS W.segs).size ≤ 100000000) (hR : Rise W.ents) (hLl : W.ents.length ≤ 100000) (hm : ¬ more W.segs) :
    Tr Tryz.prog 31 [.pointer (some ⟨w, 0, none⟩), hrdV h, lv] [sl 70 entE lv l, blk w (lcell d W.hard ev sv), sl 70 entE ev W.ents, sl 94 segE sv W.segs, blk d (dcell m D), mp fmap m D.files]
      fun v Γ => ∃ ev' sv', v = .int .i64 (W.save D h l).1 ∧ Γ = [blk w (lcell d (W.save D h l).2.1.hard ev' sv'), sl 70 entE ev' (W.save D h l).2.1.ents, sl 94 segE sv' (W.save D h l).2.1.segs, blk d (dcell m (W.save D h l).2.2), mp fmap m (W.save D h l).2.2.files] := by
  have hlast : 0 < W.segs.length := List.length_pos_iff.2 hS
  have hn0r : 0 ≤ (W.segs.getD (((W.segs.length : Nat) : Int) - 1).toNat segE.dflt).number := hn0
  have hn1r : (W.segs.getD (((W.segs.length : Nat) : Int) - 1).toNat segE.dflt).number < 99 := hn1
  have hc1 : ¬ (h.term < 0 ∨ h.vote < 0 ∨ (l.any fun e => !e.right) = true) := by rw [hany]; simp; omega
  have hpos : ∀ e ∈ l, 0 < e.index := fun e he => by
    have := List.any_eq_false.1 hany e he
    have hr : e.right = true := by simpa using this
    simp only [Ent.right, Bool.and_eq_true, decide_eq_true_eq] at hr
    exact hr.1.1.1
  have htell : (!eqCells [.int .i64 h.term, .int .i64 h.vote] [.int .i64 W.hard.term, .int .i64 W.hard.vote]) = decide (h ≠ W.hard) := by rw [eqH]; simp
  refine Tr_of_J Tryz.func31 follows rfl Tryz.ntmps31 (by simp) fun B F => ?_
  repeat' (first | (refine cl (containsFunc0_tr lv l (by omega) hany) ?_; rintro r Γ' ⟨rfl, rfl⟩; refine n1 ?_) | refine mv ?_ | refine asn ?_ | refine jn ?_ | refine nl ?_ | refine ld rfl ?_ | refine nc ?_ | refine f0 ?_ | refine xt2 ?_ | refine sq ?_ | refine rg ?_ | refine lnb ?_ | refine lls rfl ?_ | refine ad ?_ | refine sb ?_ | refine lss ?_ | refine eql ?_ | refine neq ?_ | refine gtr ?_ | refine geq ?_ | refine leq ?_ | refine nt ?_ | refine pen ?_ | refine pnn ?_ | refine p1 ?_ | refine p0 ?_ | refine sk2 ?_ | refine kp ?_ | refine ct ?_ | refine cf ?_ | (refine cd (fun hc => ?_) (fun hc => ?_) <;> try (exfalso; omega)) | (refine cn (fun hc => ?_) (fun hc => ?_) <;> try (exfalso; omega)) | refine bl ?_ | refine ib ?_ | refine xt ?_ | refine bx (fun b_ => ?_) | refine al (fun b_ => ?_) | refine sr rfl ?_ | refine la rfl ?_ | refine ixa rfl rfl ?_ | refine fe ?_ | refine lde rfl ?_ | refine lae rfl ?_ | refine fa ?_ | refine bld ?_ | refine mf2 ?_ | refine seq ?_ | refine sne ?_ | refine cc ?_ | refine ixb ?_ | refine slb ?_ | refine slbl ?_ | refine slbh ?_ | refine cv ?_ | refine mx ?_ | refine mn ?_ | refine ml ?_ | refine af_ ?_ | (refine gd (fun hc => ?_) (fun hc => ?_) <;> try (exfalso; omega)) | (refine gn (fun hc => ?_) (fun hc => ?_) <;> try (exfalso; omega)) | refine aw ?_ | refine pes ?_ | refine pns ?_ | refine sw ?_ | refine ng ?_ | refine aeq ?_ | refine ane ?_ | refine sli rfl ?_ | refine slil rfl ?_ | refine slih rfl ?_ | refine cb (fun hc => ?_) (fun hc => ?_) | refine gs (fun hc => ?_) (fun hc => ?_) | refine J_draw (id := 11) [(0, true, []), (1, true, []), (2, true, []), (3, true, []), (4, true, []), (5, true, []), (6, true, []), (7, true, []), (8, true, []), (9, true, []), (10, true, [])] (by kernel_rfl) ?_ | refine J_draw2 (id := 16) [(0, true, []), (1, true, []), (3, true, []), (4, true, []), (5, true, []), (6, true, []), (2, false, [0, 3, 4, 5, 6]), (7, false, [0, 1]), (8, false, [0]), (9, true, []), (10, true, []), (11, false, [])] [(0, true, []), (1, true, []), (3, true, []), (4, true, []), (5, true, []), (6, true, []), (7, false, [0, 1]), (2, false, [0, 3, 4, 5, 6]), (8, false, [0]), (9, true, []), (10, true, []), (11, false, [])] (by kernel_rfl) ?_ ?_ | refine J_draw (id := 17) [(0, true, []), (1, true, []), (2, true, []), (3, true, []), (4, true, []), (5, true, []), (6, true, []), (7, true, []), (8, true, []), (9, false, []), (10, true, [])] (by kernel_rfl) ?_ | refine JS_cons rfl rfl (RO_move rfl) ?_ | refine JS_cons rfl rfl (RO_nilCheck rfl) ?_ | refine JS_cons rfl rfl (RO_fieldAddr0 rfl) ?_ | refine JS_cons rfl rfl (RO_load rfl (by rfl)) ?_ | refine JS_off rfl ?_ | refine JS_cons rfl rfl (RO_extract rfl rfl) ?_ | refine JS_cons rfl rfl (RO_not rfl) ?_ | refine JS_cons rfl rfl (RO_fieldAddr rfl) ?_ | refine JS_cons rfl rfl (RO_lnb rfl) ?_ | refine JS_cons rfl rfl (RO_lls rfl) ?_ | refine JS_cons rfl rfl (RO_add_in rfl rfl (by omega)) ?_ | refine JS_cons rfl rfl (RO_sub_in rfl rfl (by omega)) ?_ | refine JS_cons rfl rfl (RO_ixa rfl rfl (by omega)) ?_ | refine JS_cons rfl rfl (RO_fe rfl) ?_ | refine JS_cons rfl rfl (RO_lde rfl (by omega) rfl) ?_ | refine JS_cons rfl rfl (RO_slih rfl rfl (by omega)) ?_ | refine JS_cons rfl rfl (RO_slil rfl rfl (by omega)) ?_ | refine JS_offu rfl ?_ | refine JS_cons rfl rfl (RO_cc rfl rfl (by omega)) ?_ | refine JS_cons rfl rfl (RO_bld rfl (by (repeat (first | exact FillS.nil | (apply FillS.cons; rfl; rfl; constructor; rfl; (focus repeat constructor)))))) ?_ | refine JS_cons rfl rfl (RO_lae rfl (by omega) (by repeat constructor)) ?_ | refine JS_cons rfl rfl (RO_loadAgg rfl (by repeat constructor)) ?_)
  refine J_sat (Γ' := sl 9 strE (.slice none 0 0) [] :: _) ?_ fun w hS => sl_nil hS
  refine lp (α := Nat × Int × Value × List (List UInt8)) (fun y => [(0, .pointer (some ⟨w, 0, none⟩)), (2, lv), (4, .pointer (some ⟨b_, 0, none⟩)), (7, y.2.2.1), (27, lv), (28, .int .i64 l.length), (29, .int .i64 y.2.1)]) (fun y => [sl 9 strE y.2.2.1 y.2.2.2, blk b_ (.cells ⟨[.int .i64 h.term, .int .i64 h.vote]⟩ 50 (0, 0)), sl 70 entE lv l, blk w (lcell d W.hard ev sv), sl 70 entE ev W.ents, sl 94 segE sv W.segs, blk d (dcell m D), mp fmap m D.files]) (fun y => y.2.1 = (y.1 : Int) ∧ y.1 ≤ l.length ∧ y.2.2.2 = (l.take y.1).map entText) (fun y => l.length - y.1) (0, 0, .slice none 0 0, []) ?_ ⟨rfl, Nat.zero_le _, rfl⟩
  rintro ⟨i, n, pv, X⟩ ⟨hn, hi, hX⟩ again
  dsimp only at hn hi hX again ⊢
  subst hn
  have hXl : X.length ≤ 100 := by rw [hX, List.length_map, List.length_take]; omega
  have hgd : i < l.length → (l.getD i .none).In ∧ (l.getD i .none).data.length ≤ 60000 := fun hi => by
    rw [getD_of hi]; exact hli _ (List.getElem_mem hi)
  have hXe : (X ++ [entText (l.getD i .none)]).length = X.length + 1 := by simp
  have hXg : i < l.length → ((X ++ [entText (l.getD i .none)]).getD ((((X ++ [entText (l.getD i .none)]).length : Nat) : Int) - 1).toNat strE.dflt).length ≤ 65536 := fun hi => by
    have e : ((((X ++ [entText (l.getD i .none)]).length : Nat) : Int) - 1).toNat = X.length := by rw [hXe]; omega
    rw [e]
    have := entText_len (hgd hi).1 (hgd hi).2
    have := (hgd hi).2
    rw [getD_last]; omega
  repeat' (first | (refine cl (entText_tr (l.getD i .none) (hgd (by omega)).1 (by have := (hgd (by omega)).2; omega)) ?_; rintro r Γ' ⟨rfl, rfl⟩; refine n0 ?_) | refine bsl (e := strE) (X := [entText (l.getD i .none)]) (fun v2 => ?_) (.cona rfl rfl .nil) | refine apo rfl rfl (fun v3 => ?_) (by simp; omega) (by simp; omega) | refine mv ?_ | refine asn ?_ | refine jn ?_ | refine nl ?_ | refine ld rfl ?_ | refine nc ?_ | refine f0 ?_ | refine xt2 ?_ | refine sq ?_ | refine rg ?_ | refine lnb ?_ | refine lls rfl ?_ | refine ad ?_ | refine sb ?_ | refine lss ?_ | refine eql ?_ | refine neq ?_ | refine gtr ?_ | refine geq ?_ | refine leq ?_ | refine nt ?_ | refine pen ?_ | refine pnn ?_ | refine p1 ?_ | refine p0 ?_ | refine sk2 ?_ | refine kp ?_ | refine ct ?_ | refine cf ?_ | (refine cd (fun hc => ?_) (fun hc => ?_) <;> try (exfalso; omega)) | (refine cn (fun hc => ?_) (fun hc => ?_) <;> try (exfalso; omega)) | refine bl ?_ | refine ib ?_ | refine xt ?_ | refine bx (fun b_ => ?_) | refine al (fun b_ => ?_) | refine sr rfl ?_ | refine la rfl ?_ | refine ixa rfl rfl ?_ | refine fe ?_ | refine lde rfl ?_ | refine lae rfl ?_ | refine fa ?_ | refine bld ?_ | refine mf2 ?_ | refine seq ?_ | refine sne ?_ | refine cc ?_ | refine ixb ?_ | refine slb ?_ | refine slbl ?_ | refine slbh ?_ | refine cv ?_ | refine mx ?_ | refine mn ?_ | refine ml ?_ | refine af_ ?_ | (refine gd (fun hc => ?_) (fun hc => ?_) <;> try (exfalso; omega)) | (refine gn (fun hc => ?_) (fun hc => ?_) <;> try (exfalso; omega)) | refine aw ?_ | refine pes ?_ | refine pns ?_ | refine sw ?_ | refine ng ?_ | refine aeq ?_ | refine ane ?_ | refine sli rfl ?_ | refine slil rfl ?_ | refine slih rfl ?_ | refine cb (fun hc => ?_) (fun hc => ?_) | refine gs (fun hc => ?_) (fun hc => ?_) | refine J_draw (id := 11) [(0, true, []), (1, true, []), (2, true, []), (3, true, []), (4, true, []), (5, true, []), (6, true, []), (7, true, []), (8, true, []), (9, true, []), (10, true, [])] (by kernel_rfl) ?_ | refine J_draw2 (id := 16) [(0, true, []), (1, true, []), (3, true, []), (4, true, []), (5, true, []), (6, true, []), (2, false, [0, 3, 4, 5, 6]), (7, false, [0, 1]), (8, false, [0]), (9, true, []), (10, true, []), (11, false, [])] [(0, true, []), (1, true, []), (3, true, []), (4, true, []), (5, true, []), (6, true, []), (7, false, [0, 1]), (2, false, [0, 3, 4, 5, 6]), (8, false, [0]), (9, true, []), (10, true, []), (11, false, [])] (by kernel_rfl) ?_ ?_ | refine J_draw (id := 17) [(0, true, []), (1, true, []), (2, true, []), (3, true, []), (4, true, []), (5, true, []), (6, true, []), (7, true, []), (8, true, []), (9, false, []), (10, true, [])] (by kernel_rfl) ?_ | refine JS_cons rfl rfl (RO_move rfl) ?_ | refine JS_cons rfl rfl (RO_nilCheck rfl) ?_ | refine JS_cons rfl rfl (RO_fieldAddr0 rfl) ?_ | refine JS_cons rfl rfl (RO_load rfl (by rfl)) ?_ | refine JS_off rfl ?_ | refine JS_cons rfl rfl (RO_extract rfl rfl) ?_ | refine JS_cons rfl rfl (RO_not rfl) ?_ | refine JS_cons rfl rfl (RO_fieldAddr rfl) ?_ | refine JS_cons rfl rfl (RO_lnb rfl) ?_ | refine JS_cons rfl rfl (RO_lls rfl) ?_ | refine JS_cons rfl rfl (RO_add_in rfl rfl (by omega)) ?_ | refine JS_cons rfl rfl (RO_sub_in rfl rfl (by omega)) ?_ | refine JS_cons rfl rfl (RO_ixa rfl rfl (by omega)) ?_ | refine JS_cons rfl rfl (RO_fe rfl) ?_ | refine JS_cons rfl rfl (RO_lde rfl (by omega) rfl) ?_ | refine JS_cons rfl rfl (RO_slih rfl rfl (by omega)) ?_ | refine JS_cons rfl rfl (RO_slil rfl rfl (by omega)) ?_ | refine JS_offu rfl ?_ | refine JS_cons rfl rfl (RO_cc rfl rfl (by omega)) ?_ | refine JS_cons rfl rfl (RO_bld rfl (by (repeat (first | exact FillS.nil | (apply FillS.cons; rfl; rfl; constructor; rfl; (focus repeat constructor)))))) ?_ | refine JS_cons rfl rfl (RO_lae rfl (by omega) (by repeat constructor)) ?_ | refine JS_cons rfl rfl (RO_loadAgg rfl (by repeat constructor)) ?_)
  · have hi' : i < l.length := by omega
    exact ag (again (i + 1, (i : Int) + 1, v3, X ++ [entText (l.getD i .none)]) ⟨by dsimp only; omega, hi', by dsimp only; rw [hX, List.take_succ_eq_append_getElem hi', List.map_append, getD_of hi']; rfl⟩ (by dsimp only; omega))
  · have h2 : l = [] := List.length_eq_zero_iff.1 (by omega)
    have h3 : h = W.hard := by
      have h4 : eqCells [.int .i64 h.term, .int .i64 h.vote] [.int .i64 W.hard.term, .int .i64 W.hard.vote] = true := by assumption
      rw [eqH] at h4; exact of_decide_eq_true h4
    have e : W.save D h l = (0, W, D) := by unfold LogS.save; rw [if_neg hc1, if_pos ⟨h2, h3⟩]
    rw [e]
    refine rt ?_
    exact ⟨_, ⟨_, _, rfl, rfl⟩, _, by repeat constructor⟩
  all_goals first | (exfalso; exact hm ⟨by assumption, by assumption⟩) | skip
  all_goals
    have hil : i = l.length := by omega
    have hne : ¬ (l = [] ∧ h = W.hard) := by
      rintro ⟨rfl, rfl⟩
      first
        | exact absurd rfl (by assumption)
        | (have h4 : eqCells [.int .i64 W.hard.term, .int .i64 W.hard.vote] [.int .i64 W.hard.term, .int .i64 W.hard.vote] = false := (by assumption)
           rw [eqH] at h4; simp at h4)
        | (exfalso; simp_all)
    rw [hil, List.take_length] at hX
    subst hX
    generalize hte : (!eqCells [.int .i64 h.term, .int .i64 h.vote] [.int .i64 W.hard.term, .int .i64 W.hard.vote]) = tell
    rw [hte] at htell
    have hps : ∀ p ∈ l.map entText, p.length ≤ 65536 := fun p hp => by
      obtain ⟨e, he, rfl⟩ := List.mem_map.1 hp
      have h2 := hli e he
      have := entText_len h2.1 h2.2
      omega
    have hbg : begun W.segs = W.segs := if_neg hm
    have hq : (tell = true ∨ (lastS W.segs).size = 0) ∨ l.map entText ≠ [] := by
      by_cases h2 : l = []
      · left; left
        rw [htell]; simp; exact fun h3 => hne ⟨h2, h3⟩
      · right; simpa using h2
    have gS : W.segs ≠ [] := hS
    have gl : (W.segs).length ≤ 100000 := (by omega)
    have gn0 : 0 ≤ (lastS W.segs).number := hn0
    have gn1 : (lastS W.segs).number < 100 := (by omega)
    have gz0 : 0 ≤ (lastS W.segs).size := hz0
    have gz1 : (lastS W.segs).size ≤ 100000000 := hz1
    have kS : layS W.segs D h tell (l.map entText) ≠ [] := ne_of_len (layS_len _ _ _ _ _) gS
    have kl : (layS W.segs D h tell (l.map entText)).length ≤ 100000 := by rw [layS_len]; exact gl
    have kn0 : 0 ≤ (lastS (layS W.segs D h tell (l.map entText))).number := by rw [layS_num gS]; exact gn0
    have kn1 : (lastS (layS W.segs D h tell (l.map entText))).number < 100 := by rw [layS_num gS]; exact gn1
    repeat' (first | (refine cl (lay_tr w d m W.hard ev sv pv W.segs D hD h hh tell (l.map entText) hps (by rw [List.length_map]; exact hl) gS gl gn0 gn1 gz0 gz1 hq) ?_; rintro r Γ' ⟨rfl, rfl⟩; refine n4 ?_) | (refine cl (still_tr w d m W.hard ev sv sv (layS W.segs D h tell (l.map entText)) (layD W.segs D h tell (l.map entText)) (layD_ok hD _ _ _ _) kS kl kn0 kn1) ?_; rintro r Γ' ⟨hr, rfl⟩; refine n4 ?_; (replace hr : r = sv := by rw [hr]; exact ite_self _); subst hr) | refine sro rfl rfl ?_ | refine mv ?_ | refine asn ?_ | refine jn ?_ | refine nl ?_ | refine ld rfl ?_ | refine nc ?_ | refine f0 ?_ | refine xt2 ?_ | refine sq ?_ | refine rg ?_ | refine lnb ?_ | refine lls rfl ?_ | refine ad ?_ | refine sb ?_ | refine lss ?_ | refine eql ?_ | refine neq ?_ | refine gtr ?_ | refine geq ?_ | refine leq ?_ | refine nt ?_ | refine pen ?_ | refine pnn ?_ | refine p1 ?_ | refine p0 ?_ | refine sk2 ?_ | refine kp ?_ | refine ct ?_ | refine cf ?_ | (refine cd (fun hc => ?_) (fun hc => ?_) <;> try (exfalso; omega)) | (refine cn (fun hc => ?_) (fun hc => ?_) <;> try (exfalso; omega)) | refine bl ?_ | refine ib ?_ | refine xt ?_ | refine bx (fun b_ => ?_) | refine al (fun b_ => ?_) | refine sr rfl ?_ | refine la rfl ?_ | refine ixa rfl rfl ?_ | refine fe ?_ | refine lde rfl ?_ | refine lae rfl ?_ | refine fa ?_ | refine bld ?_ | refine mf2 ?_ | refine seq ?_ | refine sne ?_ | refine cc ?_ | refine ixb ?_ | refine slb ?_ | refine slbl ?_ | refine slbh ?_ | refine cv ?_ | refine mx ?_ | refine mn ?_ | refine ml ?_ | refine af_ ?_ | (refine gd (fun hc => ?_) (fun hc => ?_) <;> try (exfalso; omega)) | (refine gn (fun hc => ?_) (fun hc => ?_) <;> try (exfalso; omega)) | refine aw ?_ | refine pes ?_ | refine pns ?_ | refine sw ?_ | refine ng ?_ | refine aeq ?_ | refine ane ?_ | refine sli rfl ?_ | refine slil rfl ?_ | refine slih rfl ?_ | refine cb (fun hc => ?_) (fun hc => ?_) | refine gs (fun hc => ?_) (fun hc => ?_) | refine J_draw (id := 11) [(0, true, []), (1, true, []), (2, true, []), (3, true, []), (4, true, []), (5, true, []), (6, true, []), (7, true, []), (8, true, []), (9, true, []), (10, true, [])] (by kernel_rfl) ?_ | refine J_draw2 (id := 16) [(0, true, []), (1, true, []), (3, true, []), (4, true, []), (5, true, []), (6, true, []), (2, false, [0, 3, 4, 5, 6]), (7, false, [0, 1]), (8, false, [0]), (9, true, []), (10, true, []), (11, false, [])] [(0, true, []), (1, true, []), (3, true, []), (4, true, []), (5, true, []), (6, true, []), (7, false, [0, 1]), (2, false, [0, 3, 4, 5, 6]), (8, false, [0]), (9, true, []), (10, true, []), (11, false, [])] (by kernel_rfl) ?_ ?_ | refine J_draw (id := 17) [(0, true, []), (1, true, []), (2, true, []), (3, true, []), (4, true, []), (5, true, []), (6, true, []), (7, true, []), (8, true, []), (9, false, []), (10, true, [])] (by kernel_rfl) ?_ | refine JS_cons rfl rfl (RO_move rfl) ?_ | refine JS_cons rfl rfl (RO_nilCheck rfl) ?_ | refine JS_cons rfl rfl (RO_fieldAddr0 rfl) ?_ | refine JS_cons rfl rfl (RO_load rfl (by rfl)) ?_ | refine JS_off rfl ?_ | refine JS_cons rfl rfl (RO_extract rfl rfl) ?_ | refine JS_cons rfl rfl (RO_not rfl) ?_ | refine JS_cons rfl rfl (RO_fieldAddr rfl) ?_ | refine JS_cons rfl rfl (RO_lnb rfl) ?_ | refine JS_cons rfl rfl (RO_lls rfl) ?_ | refine JS_cons rfl rfl (RO_add_in rfl rfl (by omega)) ?_ | refine JS_cons rfl rfl (RO_sub_in rfl rfl (by omega)) ?_ | refine JS_cons rfl rfl (RO_ixa rfl rfl (by omega)) ?_ | refine JS_cons rfl rfl (RO_fe rfl) ?_ | refine JS_cons rfl rfl (RO_lde rfl (by omega) rfl) ?_ | refine JS_cons rfl rfl (RO_slih rfl rfl (by omega)) ?_ | refine JS_cons rfl rfl (RO_slil rfl rfl (by omega)) ?_ | refine JS_offu rfl ?_ | refine JS_cons rfl rfl (RO_cc rfl rfl (by omega)) ?_ | refine JS_cons rfl rfl (RO_bld rfl (by (repeat (first | exact FillS.nil | (apply FillS.cons; rfl; rfl; constructor; rfl; (focus repeat constructor)))))) ?_ | refine JS_cons rfl rfl (RO_lae rfl (by omega) (by repeat constructor)) ?_ | refine JS_cons rfl rfl (RO_loadAgg rfl (by repeat constructor)) ?_)
    all_goals first
      | (have hE : layE W.segs D h tell (l.map entText) ≠ 0 := (by assumption)
         have e : W.save D h l = (layE W.segs D h tell (l.map entText), { W with segs := layS W.segs D h tell (l.map entText) }, layD W.segs D h tell (l.map entText)) := (by
           unfold LogS.save
           rw [if_neg hc1, if_neg hne, hbg, ← htell, if_pos hE, if_neg hm])
         rw [e]
         skip
         refine rt ?_
         exact ⟨_, ⟨_, _, rfl, rfl⟩, _, by repeat constructor⟩)
      | skip
    all_goals
      have hE : layE W.segs D h tell (l.map entText) = 0 := by assumption
      have e : W.save D h l = (0, puts ({ W with hard := h, segs := layS W.segs D h tell (l.map entText) } : LogS) l, layD W.segs D h tell (l.map entText)) := by
        unfold LogS.save
        rw [if_neg hc1, if_neg hne, hbg, ← htell, if_neg (by rw [hE]; decide)]
      rw [e]
      refine lp (α := Nat × Int × Value × LogS) (fun y => [(0, .pointer (some ⟨w, 0, none⟩)), (110, lv), (111, .int .i64 l.length), (112, .int .i64 y.2.1)]) (fun y => [blk w (lcell d y.2.2.2.hard y.2.2.1 sv), sl 70 entE lv l, sl 70 entE y.2.2.1 y.2.2.2.ents, sl 94 segE sv y.2.2.2.segs, blk d (dcell m (layD W.segs D h tell (l.map entText))), mp fmap m (layD W.segs D h tell (l.map entText)).files]) (fun y => y.2.1 = (y.1 : Int) ∧ y.1 ≤ l.length ∧ y.2.2.2 = puts ({ W with hard := h, segs := layS W.segs D h tell (l.map entText) } : LogS) (l.take y.1) ∧ PutOk ({ W with hard := h, segs := layS W.segs D h tell (l.map entText) } : LogS) y.2.2.2 y.1) (fun y => l.length - y.1) (0, 0, ev, ({ W with hard := h, segs := layS W.segs D h tell (l.map entText) } : LogS)) ?_ ⟨rfl, Nat.zero_le _, rfl, ⟨hR, Nat.le_refl _, rfl, rfl⟩⟩
      clear again hgd hXg
      rintro ⟨j, n, ev1, V⟩ ⟨hn, hj, hV, hP⟩ again
      dsimp only at hn hj hV hP again ⊢
      subst hn
      have q1 := hP.rise
      have q2 : V.ents.length ≤ 1000000 := by
        have := hP.len
        have e1 : (({ W with hard := h, segs := layS W.segs D h tell (l.map entText) } : LogS)).ents.length = W.ents.length := rfl
        omega
      have q3 : V.segs ≠ [] := ne_of_len hP.slen kS
      have q4 : V.segs.length ≤ 100000 := by rw [hP.slen]; exact kl
      have q5 : j < l.length → (l.getD j .none).In ∧ 0 < (l.getD j .none).index := fun hj => by
        rw [getD_of hj]; exact ⟨(hli _ (List.getElem_mem hj)).1, hpos _ (List.getElem_mem hj)⟩
      repeat' (first | (refine cl (put_tr w d V.hard ev1 sv V.ents V.segs (l.getD j .none) (q5 (by omega)).1 (q5 (by omega)).2 q1 q3 q4 q2) ?_; rintro r Γ' ⟨ev2, rfl⟩; refine n3 ?_) | refine mv ?_ | refine asn ?_ | refine jn ?_ | refine nl ?_ | refine ld rfl ?_ | refine nc ?_ | refine f0 ?_ | refine xt2 ?_ | refine sq ?_ | refine rg ?_ | refine lnb ?_ | refine lls rfl ?_ | refine ad ?_ | refine sb ?_ | refine lss ?_ | refine eql ?_ | refine neq ?_ | refine gtr ?_ | refine geq ?_ | refine leq ?_ | refine nt ?_ | refine pen ?_ | refine pnn ?_ | refine p1 ?_ | refine p0 ?_ | refine sk2 ?_ | refine kp ?_ | refine ct ?_ | refine cf ?_ | (refine cd (fun hc => ?_) (fun hc => ?_) <;> try (exfalso; omega)) | (refine cn (fun hc => ?_) (fun hc => ?_) <;> try (exfalso; omega)) | refine bl ?_ | refine ib ?_ | refine xt ?_ | refine bx (fun b_ => ?_) | refine al (fun b_ => ?_) | refine sr rfl ?_ | refine la rfl ?_ | refine ixa rfl rfl ?_ | refine fe ?_ | refine lde rfl ?_ | refine lae rfl ?_ | refine fa ?_ | refine bld ?_ | refine mf2 ?_ | refine seq ?_ | refine sne ?_ | refine cc ?_ | refine ixb ?_ | refine slb ?_ | refine slbl ?_ | refine slbh ?_ | refine cv ?_ | refine mx ?_ | refine mn ?_ | refine ml ?_ | refine af_ ?_ | (refine gd (fun hc => ?_) (fun hc => ?_) <;> try (exfalso; omega)) | (refine gn (fun hc => ?_) (fun hc => ?_) <;> try (exfalso; omega)) | refine aw ?_ | refine pes ?_ | refine pns ?_ | refine sw ?_ | refine ng ?_ | refine aeq ?_ | refine ane ?_ | refine sli rfl ?_ | refine slil rfl ?_ | refine slih rfl ?_ | refine cb (fun hc => ?_) (fun hc => ?_) | refine gs (fun hc => ?_) (fun hc => ?_) | refine J_draw (id := 11) [(0, true, []), (1, true, []), (2, true, []), (3, true, []), (4, true, []), (5, true, []), (6, true, []), (7, true, []), (8, true, []), (9, true, []), (10, true, [])] (by kernel_rfl) ?_ | refine J_draw2 (id := 16) [(0, true, []), (1, true, []), (3, true, []), (4, true, []), (5, true, []), (6, true, []), (2, false, [0, 3, 4, 5, 6]), (7, false, [0, 1]), (8, false, [0]), (9, true, []), (10, true, []), (11, false, [])] [(0, true, []), (1, true, []), (3, true, []), (4, true, []), (5, true, []), (6, true, []), (7, false, [0, 1]), (2, false, [0, 3, 4, 5, 6]), (8, false, [0]), (9, true, []), (10, true, []), (11, false, [])] (by kernel_rfl) ?_ ?_ | refine J_draw (id := 17) [(0, true, []), (1, true, []), (2, true, []), (3, true, []), (4, true, []), (5, true, []), (6, true, []), (7, true, []), (8, true, []), (9, false, []), (10, true, [])] (by kernel_rfl) ?_ | refine JS_cons rfl rfl (RO_move rfl) ?_ | refine JS_cons rfl rfl (RO_nilCheck rfl) ?_ | refine JS_cons rfl rfl (RO_fieldAddr0 rfl) ?_ | refine JS_cons rfl rfl (RO_load rfl (by rfl)) ?_ | refine JS_off rfl ?_ | refine JS_cons rfl rfl (RO_extract rfl rfl) ?_ | refine JS_cons rfl rfl (RO_not rfl) ?_ | refine JS_cons rfl rfl (RO_fieldAddr rfl) ?_ | refine JS_cons rfl rfl (RO_lnb rfl) ?_ | refine JS_cons rfl rfl (RO_lls rfl) ?_ | refine JS_cons rfl rfl (RO_add_in rfl rfl (by omega)) ?_ | refine JS_cons rfl rfl (RO_sub_in rfl rfl (by omega)) ?_ | refine JS_cons rfl rfl (RO_ixa rfl rfl (by omega)) ?_ | refine JS_cons rfl rfl (RO_fe rfl) ?_ | refine JS_cons rfl rfl (RO_lde rfl (by omega) rfl) ?_ | refine JS_cons rfl rfl (RO_slih rfl rfl (by omega)) ?_ | refine JS_cons rfl rfl (RO_slil rfl rfl (by omega)) ?_ | refine JS_offu rfl ?_ | refine JS_cons rfl rfl (RO_cc rfl rfl (by omega)) ?_ | refine JS_cons rfl rfl (RO_bld rfl (by (repeat (first | exact FillS.nil | (apply FillS.cons; rfl; rfl; constructor; rfl; (focus repeat constructor)))))) ?_ | refine JS_cons rfl rfl (RO_lae rfl (by omega) (by repeat constructor)) ?_ | refine JS_cons rfl rfl (RO_loadAgg rfl (by repeat constructor)) ?_)
      all_goals first
        | (have hj' : j < l.length := (by omega)
           exact ag (again (j + 1, (j : Int) + 1, ev2, V.put (l.getD j .none)) ⟨(by dsimp only; omega), hj', (by dsimp only; rw [hV, puts_take hj']), hP.put (q5 hj').1 (q5 hj').2⟩ (by dsimp only; omega)))
        | (have hjl : j = l.length := (by omega)
           rw [hjl, List.take_length] at hV
           subst hV
           refine rt ?_
           exact ⟨_, ⟨_, _, rfl, rfl⟩, _, by repeat constructor⟩)
end Go.Proofs.YtaeefjcbmkiiaaaGreatDoor
/- The log: a save behind which a segment is begun; any save. -/
namespace Go.Proofs.YtaeefjcbmkiiaaaGreatDoor
open Go Sl
attribute [local irreducible] J JR JS RO CR Arr Sat Tr sat blk
set_option linter.unusedVariables false
set_option maxHeartbeats 800000
set_option maxRecDepth 4000
theorem save_more (w d m : Nat) (lv : Value) (W : LogS) (ev sv : Value) (D : DiskS) (hD : D.Ok) (h : Hrd) (hh : h.In) (l : List Ent) (hl : l.length ≤ 100) (hli : ∀ e ∈ l, e.In ∧ e.data.length ≤ 60000) (h0 : 0 ≤ h.term) (h1 : 0 ≤ h.vote) (hany : (l.any fun e => !e.right) = false)
    (hS : W.segs ≠ []) (hSl : W.segs.length ≤ 1000) (hn0 : 0 ≤ (lastS W.segs).number) (hn1 : (lastS W.segs).number < 99) (hz0 : 0 ≤ (lastS W.segs).size) (hz1 : (lastS W.segs).size ≤ 100000000) (hR : Rise W.ents) (hLl : W.ents.length ≤ 100000) (hm : more W.segs) :
    Tr Tryz.prog 31 [.pointer (some ⟨w, 0, none⟩), hrdV h, lv] [sl 70 entE lv l, blk w (lcell d W.hard ev sv), sl 70 entE ev W.ents, sl 94 segE sv W.segs, blk d (dcell m D), mp fmap m D.files]
      fun v Γ => ∃ ev' sv', v = .int .i64 (W.save D h l).1 ∧ Γ = [blk w (lcell d (W.save D h l).2.1.hard ev' sv'), sl 70 entE ev' (W.save D h l).2.1.ents, sl 94 segE sv' (W.save D h l).2.1.segs, blk d (dcell m (W.save D h l).2.2), mp fmap m (W.save D h l).2.2.files] := by
  have hlast : 0 < W.segs.length := List.length_pos_iff.2 hS
  have hn0r : 0 ≤ (W.segs.getD (((W.segs.length : Nat) : Int) - 1).toNat segE.dflt).number := hn0
  have hn1r : (W.segs.getD (((W.segs.length : Nat) : Int) - 1).toNat segE.dflt).number < 99 := hn1
  have hc1 : ¬ (h.term < 0 ∨ h.vote < 0 ∨ (l.any fun e => !e.right) = true) := by rw [hany]; simp; omega
  have hpos : ∀ e ∈ l, 0 < e.index := fun e he => by
    have := List.any_eq_false.1 hany e he
    have hr : e.right = true := by simpa using this
    simp only [Ent.right, Bool.and_eq_true, decide_eq_true_eq] at hr
    exact hr.1.1.1
  have htell : (!eqCells [.int .i64 h.term, .int .i64 h.vote] [.int .i64 W.hard.term, .int .i64 W.hard.vote]) = decide (h ≠ W.hard) := by rw [eqH]; simp
  refine Tr_of_J Tryz.func31 follows rfl Tryz.ntmps31 (by simp) fun B F => ?_
  repeat' (first | (refine cl (containsFunc0_tr lv l (by omega) hany) ?_; rintro r Γ' ⟨rfl, rfl⟩; refine n1 ?_) | refine mv ?_ | refine asn ?_ | refine jn ?_ | refine nl ?_ | refine ld rfl ?_ | refine nc ?_ | refine f0 ?_ | refine xt2 ?_ | refine sq ?_ | refine rg ?_ | refine lnb ?_ | refine lls rfl ?_ | refine ad ?_ | refine sb ?_ | refine lss ?_ | refine eql ?_ | refine neq ?_ | refine gtr ?_ | refine geq ?_ | refine leq ?_ | refine nt ?_ | refine pen ?_ | refine pnn ?_ | refine p1 ?_ | refine p0 ?_ | refine sk2 ?_ | refine kp ?_ | refine ct ?_ | refine cf ?_ | (refine cd (fun hc => ?_) (fun hc => ?_) <;> try (exfalso; omega)) | (refine cn (fun hc => ?_) (fun hc => ?_) <;> try (exfalso; omega)) | refine bl ?_ | refine ib ?_ | refine xt ?_ | refine bx (fun b_ => ?_) | refine al (fun b_ => ?_) | refine sr rfl ?_ | refine la rfl ?_ | refine ixa rfl rfl ?_ | refine fe ?_ | refine lde rfl ?_ | refine lae rfl ?_ | refine fa ?_ | refine bld ?_ | refine mf2 ?_ | refine seq ?_ | refine sne ?_ | refine cc ?_ | refine ixb ?_ | refine slb ?_ | refine slbl ?_ | refine slbh ?_ | refine cv ?_ | refine mx ?_ | refine mn ?_ | refine ml ?_ | refine af_ ?_ | (refine gd (fun hc => ?_) (fun hc => ?_) <;> try (exfalso; omega)) | (refine gn (fun hc => ?_) (fun hc => ?_) <;> try (exfalso; omega)) | refine aw ?_ | refine pes ?_ | refine pns ?_ | refine sw ?_ | refine ng ?_ | refine aeq ?_ | refine ane ?_ | refine sli rfl ?_ | refine slil rfl ?_ | refine slih rfl ?_ | refine cb (fun hc => ?_) (fun hc => ?_) | refine gs (fun hc => ?_) (fun hc => ?_) | refine J_draw (id := 11) [(0, true, []), (1, true, []), (2, true, []), (3, true, []), (4, true, []), (5, true, []), (6, true, []), (7, true, []), (8, true, []), (9, true, []), (10, true, [])] (by kernel_rfl) ?_ | refine J_draw2 (id := 16) [(0, true, []), (1, true, []), (3, true, []), (4, true, []), (5, true, []), (6, true, []), (2, false, [0, 3, 4, 5, 6]), (7, false, [0, 1]), (8, false, [0]), (9, true, []), (10, true, []), (11, false, [])] [(0, true, []), (1, true, []), (3, true, []), (4, true, []), (5, true, []), (6, true, []), (7, false, [0, 1]), (2, false, [0, 3, 4, 5, 6]), (8, false, [0]), (9, true, []), (10, true, []), (11, false, [])] (by kernel_rfl) ?_ ?_ | refine J_draw (id := 17) [(0, true, []), (1, true, []), (2, true, []), (3, true, []), (4, true, []), (5, true, []), (6, true, []), (7, true, []), (8, true, []), (9, false, []), (10, true, [])] (by kernel_rfl) ?_ | refine JS_cons rfl rfl (RO_move rfl) ?_ | refine JS_cons rfl rfl (RO_nilCheck rfl) ?_ | refine JS_cons rfl rfl (RO_fieldAddr0 rfl) ?_ | refine JS_cons rfl rfl (RO_load rfl (by rfl)) ?_ | refine JS_off rfl ?_ | refine JS_cons rfl rfl (RO_extract rfl rfl) ?_ | refine JS_cons rfl rfl (RO_not rfl) ?_ | refine JS_cons rfl rfl (RO_fieldAddr rfl) ?_ | refine JS_cons rfl rfl (RO_lnb rfl) ?_ | refine JS_cons rfl rfl (RO_lls rfl) ?_ | refine JS_cons rfl rfl (RO_add_in rfl rfl (by omega)) ?_ | refine JS_cons rfl rfl (RO_sub_in rfl rfl (by omega)) ?_ | refine JS_cons rfl rfl (RO_ixa rfl rfl (by omega)) ?_ | refine JS_cons rfl rfl (RO_fe rfl) ?_ | refine JS_cons rfl rfl (RO_lde rfl (by omega) rfl) ?_ | refine JS_cons rfl rfl (RO_slih rfl rfl (by omega)) ?_ | refine JS_cons rfl rfl (RO_slil rfl rfl (by omega)) ?_ | refine JS_offu rfl ?_ | refine JS_cons rfl rfl (RO_cc rfl rfl (by omega)) ?_ | refine JS_cons rfl rfl (RO_bld rfl (by (repeat (first | exact FillS.nil | (apply FillS.cons; rfl; rfl; constructor; rfl; (focus repeat constructor)))))) ?_ | refine JS_cons rfl rfl (RO_lae rfl (by omega) (by repeat constructor)) ?_ | refine JS_cons rfl rfl (RO_loadAgg rfl (by repeat constructor)) ?_)
  refine J_sat (Γ' := sl 9 strE (.slice none 0 0) [] :: _) ?_ fun w hS => sl_nil hS
  refine lp (α := Nat × Int × Value × List (List UInt8)) (fun y => [(0, .pointer (some ⟨w, 0, none⟩)), (2, lv), (4, .pointer (some ⟨b_, 0, none⟩)), (7, y.2.2.1), (27, lv), (28, .int .i64 l.length), (29, .int .i64 y.2.1)]) (fun y => [sl 9 strE y.2.2.1 y.2.2.2, blk b_ (.cells ⟨[.int .i64 h.term, .int .i64 h.vote]⟩ 50 (0, 0)), sl 70 entE lv l, blk w (lcell d W.hard ev sv), sl 70 entE ev W.ents, sl 94 segE sv W.segs, blk d (dcell m D), mp fmap m D.files]) (fun y => y.2.1 = (y.1 : Int) ∧ y.1 ≤ l.length ∧ y.2.2.2 = (l.take y.1).map entText) (fun y => l.length - y.1) (0, 0, .slice none 0 0, []) ?_ ⟨rfl, Nat.zero_le _, rfl⟩
  rintro ⟨i, n, pv, X⟩ ⟨hn, hi, hX⟩ again
  dsimp only at hn hi hX again ⊢
  subst hn
  have hXl : X.length ≤ 100 := by rw [hX, List.length_map, List.length_take]; omega
  have hgd : i < l.length → (l.getD i .none).In ∧ (l.getD i .none).data.length ≤ 60000 := fun hi => by
    rw [getD_of hi]; exact hli _ (List.getElem_mem hi)
  have hXe : (X ++ [entText (l.getD i .none)]).length = X.length + 1 := by simp
  have hXg : i < l.length → ((X ++ [entText (l.getD i .none)]).getD ((((X ++ [entText (l.getD i .none)]).length : Nat) : Int) - 1).toNat strE.dflt).length ≤ 65536 := fun hi => by
    have e : ((((X ++ [entText (l.getD i .none)]).length : Nat) : Int) - 1).toNat = X.length := by rw [hXe]; omega
    rw [e]
    have := entText_len (hgd hi).1 (hgd hi).2
    have := (hgd hi).2
    rw [getD_last]; omega
  repeat' (first | (refine cl (entText_tr (l.getD i .none) (hgd (by omega)).1 (by have := (hgd (by omega)).2; omega)) ?_; rintro r Γ' ⟨rfl, rfl⟩; refine n0 ?_) | refine bsl (e := strE) (X := [entText (l.getD i .none)]) (fun v2 => ?_) (.cona rfl rfl .nil) | refine apo rfl rfl (fun v3 => ?_) (by simp; omega) (by simp; omega) | (refine cl (cloneS_tr sv W.segs (by omega)) ?_; rintro r6 Γ' rfl; refine n2 ?_) | refine bsl (e := segE) (X := [⟨(lastS W.segs).number + 1, 0, 0⟩]) (fun v5 => ?_) (.cona rfl rfl .nil) | refine sro rfl rfl ?_ | refine mv ?_ | refine asn ?_ | refine jn ?_ | refine nl ?_ | refine ld rfl ?_ | refine nc ?_ | refine f0 ?_ | refine xt2 ?_ | refine sq ?_ | refine rg ?_ | refine lnb ?_ | refine lls rfl ?_ | refine ad ?_ | refine sb ?_ | refine lss ?_ | refine eql ?_ | refine neq ?_ | refine gtr ?_ | refine geq ?_ | refine leq ?_ | refine nt ?_ | refine pen ?_ | refine pnn ?_ | refine p1 ?_ | refine p0 ?_ | refine sk2 ?_ | refine kp ?_ | refine ct ?_ | refine cf ?_ | (refine cd (fun hc => ?_) (fun hc => ?_) <;> try (exfalso; omega)) | (refine cn (fun hc => ?_) (fun hc => ?_) <;> try (exfalso; omega)) | refine bl ?_ | refine ib ?_ | refine xt ?_ | refine bx (fun b_ => ?_) | refine al (fun b_ => ?_) | refine sr rfl ?_ | refine la rfl ?_ | refine ixa rfl rfl ?_ | refine fe ?_ | refine lde rfl ?_ | refine lae rfl ?_ | refine fa ?_ | refine bld ?_ | refine mf2 ?_ | refine seq ?_ | refine sne ?_ | refine cc ?_ | refine ixb ?_ | refine slb ?_ | refine slbl ?_ | refine slbh ?_ | refine cv ?_ | refine mx ?_ | refine mn ?_ | refine ml ?_ | refine af_ ?_ | (refine gd (fun hc => ?_) (fun hc => ?_) <;> try (exfalso; omega)) | (refine gn (fun hc => ?_) (fun hc => ?_) <;> try (exfalso; omega)) | refine aw ?_ | refine pes ?_ | refine pns ?_ | refine sw ?_ | refine ng ?_ | refine aeq ?_ | refine ane ?_ | refine sli rfl ?_ | refine slil rfl ?_ | refine slih rfl ?_ | refine cb (fun hc => ?_) (fun hc => ?_) | refine gs (fun hc => ?_) (fun hc => ?_) | refine J_draw (id := 11) [(0, true, []), (1, true, []), (2, true, []), (3, true, []), (4, true, []), (5, true, []), (6, true, []), (7, true, []), (8, true, []), (9, true, []), (10, true, [])] (by kernel_rfl) ?_ | refine J_draw2 (id := 16) [(0, true, []), (1, true, []), (3, true, []), (4, true, []), (5, true, []), (6, true, []), (2, false, [0, 3, 4, 5, 6]), (7, false, [0, 1]), (8, false, [0]), (9, true, []), (10, true, []), (11, false, [])] [(0, true, []), (1, true, []), (3, true, []), (4, true, []), (5, true, []), (6, true, []), (7, false, [0, 1]), (2, false, [0, 3, 4, 5, 6]), (8, false, [0]), (9, true, []), (10, true, []), (11, false, [])] (by kernel_rfl) ?_ ?_ | refine J_draw (id := 17) [(0, true, []), (1, true, []), (2, true, []), (3, true, []), (4, true, []), (5, true, []), (6, true, []), (7, true, []), (8, true, []), (9, false, []), (10, true, [])] (by kernel_rfl) ?_ | refine JS_cons rfl rfl (RO_move rfl) ?_ | refine JS_cons rfl rfl (RO_nilCheck rfl) ?_ | refine JS_cons rfl rfl (RO_fieldAddr0 rfl) ?_ | refine JS_cons rfl rfl (RO_load rfl (by rfl)) ?_ | refine JS_off rfl ?_ | refine JS_cons rfl rfl (RO_extract rfl rfl) ?_ | refine JS_cons rfl rfl (RO_not rfl) ?_ | refine JS_cons rfl rfl (RO_fieldAddr rfl) ?_ | refine JS_cons rfl rfl (RO_lnb rfl) ?_ | refine JS_cons rfl rfl (RO_lls rfl) ?_ | refine JS_cons rfl rfl (RO_add_in rfl rfl (by omega)) ?_ | refine JS_cons rfl rfl (RO_sub_in rfl rfl (by omega)) ?_ | refine JS_cons rfl rfl (RO_ixa rfl rfl (by omega)) ?_ | refine JS_cons rfl rfl (RO_fe rfl) ?_ | refine JS_cons rfl rfl (RO_lde rfl (by omega) rfl) ?_ | refine JS_cons rfl rfl (RO_slih rfl rfl (by omega)) ?_ | refine JS_cons rfl rfl (RO_slil rfl rfl (by omega)) ?_ | refine JS_offu rfl ?_ | refine JS_cons rfl rfl (RO_cc rfl rfl (by omega)) ?_ | refine JS_cons rfl rfl (RO_bld rfl (by (repeat (first | exact FillS.nil | (apply FillS.cons; rfl; rfl; constructor; rfl; (focus repeat constructor)))))) ?_ | refine JS_cons rfl rfl (RO_lae rfl (by omega) (by repeat constructor)) ?_ | refine JS_cons rfl rfl (RO_loadAgg rfl (by repeat constructor)) ?_)
  · have hi' : i < l.length := by omega
    exact ag (again (i + 1, (i : Int) + 1, v3, X ++ [entText (l.getD i .none)]) ⟨by dsimp only; omega, hi', by dsimp only; rw [hX, List.take_succ_eq_append_getElem hi', List.map_append, getD_of hi']; rfl⟩ (by dsimp only; omega))
  · have h2 : l = [] := List.length_eq_zero_iff.1 (by omega)
    have h3 : h = W.hard := by
      have h4 : eqCells [.int .i64 h.term, .int .i64 h.vote] [.int .i64 W.hard.term, .int .i64 W.hard.vote] = true := by assumption
      rw [eqH] at h4; exact of_decide_eq_true h4
    have e : W.save D h l = (0, W, D) := by unfold LogS.save; rw [if_neg hc1, if_pos ⟨h2, h3⟩]
    rw [e]
    refine rt ?_
    exact ⟨_, ⟨_, _, rfl, rfl⟩, _, by repeat constructor⟩
  all_goals first | (exfalso; first | exact absurd hm.1 (by assumption) | exact absurd hm.2 (by assumption)) | skip
  all_goals
    have hil : i = l.length := by omega
    have hne : ¬ (l = [] ∧ h = W.hard) := by
      rintro ⟨rfl, rfl⟩
      first
        | exact absurd rfl (by assumption)
        | (have h4 : eqCells [.int .i64 W.hard.term, .int .i64 W.hard.vote] [.int .i64 W.hard.term, .int .i64 W.hard.vote] = false := (by assumption)
           rw [eqH] at h4; simp at h4)
        | (exfalso; simp_all)
    rw [hil, List.take_length] at hX
    subst hX
    generalize hte : (!eqCells [.int .i64 h.term, .int .i64 h.vote] [.int .i64 W.hard.term, .int .i64 W.hard.vote]) = tell
    rw [hte] at htell
    have hps : ∀ p ∈ l.map entText, p.length ≤ 65536 := fun p hp => by
      obtain ⟨e, he, rfl⟩ := List.mem_map.1 hp
      have h2 := hli e he
      have := entText_len h2.1 h2.2
      omega
    have hbg : begun W.segs = (next W.segs) := if_pos hm
    have hq : (tell = true ∨ (lastS (next W.segs)).size = 0) ∨ l.map entText ≠ [] := by
      by_cases h2 : l = []
      · left; left
        rw [htell]; simp; exact fun h3 => hne ⟨h2, h3⟩
      · right; simpa using h2
    have gS : (next W.segs) ≠ [] := (by simp [next])
    have gl : ((next W.segs)).length ≤ 100000 := (by simp [next]; omega)
    have gn0 : 0 ≤ (lastS (next W.segs)).number := (by rw [next_last]; show 0 ≤ (lastS W.segs).number + 1; omega)
    have gn1 : (lastS (next W.segs)).number < 100 := (by rw [next_last]; show (lastS W.segs).number + 1 < 100; omega)
    have gz0 : 0 ≤ (lastS (next W.segs)).size := (by rw [next_last]; exact Int.le_refl 0)
    have gz1 : (lastS (next W.segs)).size ≤ 100000000 := (by rw [next_last]; show (0 : Int) ≤ _; omega)
    have kS : layS (next W.segs) D h tell (l.map entText) ≠ [] := ne_of_len (layS_len _ _ _ _ _) gS
    have kl : (layS (next W.segs) D h tell (l.map entText)).length ≤ 100000 := by rw [layS_len]; exact gl
    have kn0 : 0 ≤ (lastS (layS (next W.segs) D h tell (l.map entText))).number := by rw [layS_num gS]; exact gn0
    have kn1 : (lastS (layS (next W.segs) D h tell (l.map entText))).number < 100 := by rw [layS_num gS]; exact gn1
    repeat' (first | (refine cl (lay_tr w d m W.hard ev v3 pv (next W.segs) D hD h hh tell (l.map entText) hps (by rw [List.length_map]; exact hl) gS gl gn0 gn1 gz0 gz1 hq) ?_; rintro r Γ' ⟨rfl, rfl⟩; refine n4 ?_) | (refine cl (still_tr w d m W.hard ev v3 sv (layS (next W.segs) D h tell (l.map entText)) (layD (next W.segs) D h tell (l.map entText)) (layD_ok hD _ _ _ _) kS kl kn0 kn1) ?_; rintro r Γ' ⟨hr, rfl⟩; refine n4 ?_; rcases ite_or hr with ⟨hk, rfl⟩ | ⟨hk, rfl⟩) | refine sro rfl rfl ?_ | refine mv ?_ | refine asn ?_ | refine jn ?_ | refine nl ?_ | refine ld rfl ?_ | refine nc ?_ | refine f0 ?_ | refine xt2 ?_ | refine sq ?_ | refine rg ?_ | refine lnb ?_ | refine lls rfl ?_ | refine ad ?_ | refine sb ?_ | refine lss ?_ | refine eql ?_ | refine neq ?_ | refine gtr ?_ | refine geq ?_ | refine leq ?_ | refine nt ?_ | refine pen ?_ | refine pnn ?_ | refine p1 ?_ | refine p0 ?_ | refine sk2 ?_ | refine kp ?_ | refine ct ?_ | refine cf ?_ | (refine cd (fun hc => ?_) (fun hc => ?_) <;> try (exfalso; omega)) | (refine cn (fun hc => ?_) (fun hc => ?_) <;> try (exfalso; omega)) | refine bl ?_ | refine ib ?_ | refine xt ?_ | refine bx (fun b_ => ?_) | refine al (fun b_ => ?_) | refine sr rfl ?_ | refine la rfl ?_ | refine ixa rfl rfl ?_ | refine fe ?_ | refine lde rfl ?_ | refine lae rfl ?_ | refine fa ?_ | refine bld ?_ | refine mf2 ?_ | refine seq ?_ | refine sne ?_ | refine cc ?_ | refine ixb ?_ | refine slb ?_ | refine slbl ?_ | refine slbh ?_ | refine cv ?_ | refine mx ?_ | refine mn ?_ | refine ml ?_ | refine af_ ?_ | (refine gd (fun hc => ?_) (fun hc => ?_) <;> try (exfalso; omega)) | (refine gn (fun hc => ?_) (fun hc => ?_) <;> try (exfalso; omega)) | refine aw ?_ | refine pes ?_ | refine pns ?_ | refine sw ?_ | refine ng ?_ | refine aeq ?_ | refine ane ?_ | refine sli rfl ?_ | refine slil rfl ?_ | refine slih rfl ?_ | refine cb (fun hc => ?_) (fun hc => ?_) | refine gs (fun hc => ?_) (fun hc => ?_) | refine J_draw (id := 11) [(0, true, []), (1, true, []), (2, true, []), (3, true, []), (4, true, []), (5, true, []), (6, true, []), (7, true, []), (8, true, []), (9, true, []), (10, true, [])] (by kernel_rfl) ?_ | refine J_draw2 (id := 16) [(0, true, []), (1, true, []), (3, true, []), (4, true, []), (5, true, []), (6, true, []), (2, false, [0, 3, 4, 5, 6]), (7, false, [0, 1]), (8, false, [0]), (9, true, []), (10, true, []), (11, false, [])] [(0, true, []), (1, true, []), (3, true, []), (4, true, []), (5, true, []), (6, true, []), (7, false, [0, 1]), (2, false, [0, 3, 4, 5, 6]), (8, false, [0]), (9, true, []), (10, true, []), (11, false, [])] (by kernel_rfl) ?_ ?_ | refine J_draw (id := 17) [(0, true, []), (1, true, []), (2, true, []), (3, true, []), (4, true, []), (5, true, []), (6, true, []), (7, true, []), (8, true, []), (9, false, []), (10, true, [])] (by kernel_rfl) ?_ | refine JS_cons rfl rfl (RO_move rfl) ?_ | refine JS_cons rfl rfl (RO_nilCheck rfl) ?_ | refine JS_cons rfl rfl (RO_fieldAddr0 rfl) ?_ | refine JS_cons rfl rfl (RO_load rfl (by rfl)) ?_ | refine JS_off rfl ?_ | refine JS_cons rfl rfl (RO_extract rfl rfl) ?_ | refine JS_cons rfl rfl (RO_not rfl) ?_ | refine JS_cons rfl rfl (RO_fieldAddr rfl) ?_ | refine JS_cons rfl rfl (RO_lnb rfl) ?_ | refine JS_cons rfl rfl (RO_lls rfl) ?_ | refine JS_cons rfl rfl (RO_add_in rfl rfl (by omega)) ?_ | refine JS_cons rfl rfl (RO_sub_in rfl rfl (by omega)) ?_ | refine JS_cons rfl rfl (RO_ixa rfl rfl (by omega)) ?_ | refine JS_cons rfl rfl (RO_fe rfl) ?_ | refine JS_cons rfl rfl (RO_lde rfl (by omega) rfl) ?_ | refine JS_cons rfl rfl (RO_slih rfl rfl (by omega)) ?_ | refine JS_cons rfl rfl (RO_slil rfl rfl (by omega)) ?_ | refine JS_offu rfl ?_ | refine JS_cons rfl rfl (RO_cc rfl rfl (by omega)) ?_ | refine JS_cons rfl rfl (RO_bld rfl (by (repeat (first | exact FillS.nil | (apply FillS.cons; rfl; rfl; constructor; rfl; (focus repeat constructor)))))) ?_ | refine JS_cons rfl rfl (RO_lae rfl (by omega) (by repeat constructor)) ?_ | refine JS_cons rfl rfl (RO_loadAgg rfl (by repeat constructor)) ?_)
    all_goals first
      | (have hE : layE (next W.segs) D h tell (l.map entText) ≠ 0 := (by assumption)
         have e : W.save D h l = (layE (next W.segs) D h tell (l.map entText), { W with segs := there (layD (next W.segs) D h tell (l.map entText)) W.segs (layS (next W.segs) D h tell (l.map entText)) }, layD (next W.segs) D h tell (l.map entText)) := (by
           unfold LogS.save
           rw [if_neg hc1, if_neg hne, hbg, ← htell, if_pos hE, if_pos hm])
         rw [e]
         first | rw [show there (layD (next W.segs) D h tell (l.map entText)) W.segs (layS (next W.segs) D h tell (l.map entText)) = layS (next W.segs) D h tell (l.map entText) from if_pos hk] | rw [show there (layD (next W.segs) D h tell (l.map entText)) W.segs (layS (next W.segs) D h tell (l.map entText)) = W.segs from if_neg hk]
         refine rt ?_
         exact ⟨_, ⟨_, _, rfl, rfl⟩, _, by repeat constructor⟩)
      | skip
    all_goals
      have hE : layE (next W.segs) D h tell (l.map entText) = 0 := by assumption
      have e : W.save D h l = (0, puts ({ W with hard := h, segs := layS (next W.segs) D h tell (l.map entText) } : LogS) l, layD (next W.segs) D h tell (l.map entText)) := by
        unfold LogS.save
        rw [if_neg hc1, if_neg hne, hbg, ← htell, if_neg (by rw [hE]; decide)]
      rw [e]
      refine lp (α := Nat × Int × Value × LogS) (fun y => [(0, .pointer (some ⟨w, 0, none⟩)), (110, lv), (111, .int .i64 l.length), (112, .int .i64 y.2.1)]) (fun y => [blk w (lcell d y.2.2.2.hard y.2.2.1 v3), sl 70 entE lv l, sl 70 entE y.2.2.1 y.2.2.2.ents, sl 94 segE v3 y.2.2.2.segs, blk d (dcell m (layD (next W.segs) D h tell (l.map entText))), mp fmap m (layD (next W.segs) D h tell (l.map entText)).files]) (fun y => y.2.1 = (y.1 : Int) ∧ y.1 ≤ l.length ∧ y.2.2.2 = puts ({ W with hard := h, segs := layS (next W.segs) D h tell (l.map entText) } : LogS) (l.take y.1) ∧ PutOk ({ W with hard := h, segs := layS (next W.segs) D h tell (l.map entText) } : LogS) y.2.2.2 y.1) (fun y => l.length - y.1) (0, 0, ev, ({ W with hard := h, segs := layS (next W.segs) D h tell (l.map entText) } : LogS)) ?_ ⟨rfl, Nat.zero_le _, rfl, ⟨hR, Nat.le_refl _, rfl, rfl⟩⟩
      clear again hgd hXg
      rintro ⟨j, n, ev1, V⟩ ⟨hn, hj, hV, hP⟩ again
      dsimp only at hn hj hV hP again ⊢
      subst hn
      have q1 := hP.rise
      have q2 : V.ents.length ≤ 1000000 := by
        have := hP.len
        have e1 : (({ W with hard := h, segs := layS (next W.segs) D h tell (l.map entText) } : LogS)).ents.length = W.ents.length := rfl
        omega
      have q3 : V.segs ≠ [] := ne_of_len hP.slen kS
      have q4 : V.segs.length ≤ 100000 := by rw [hP.slen]; exact kl
      have q5 : j < l.length → (l.getD j .none).In ∧ 0 < (l.getD j .none).index := fun hj => by
        rw [getD_of hj]; exact ⟨(hli _ (List.getElem_mem hj)).1, hpos _ (List.getElem_mem hj)⟩
      repeat' (first | (refine cl (put_tr w d V.hard ev1 v3 V.ents V.segs (l.getD j .none) (q5 (by omega)).1 (q5 (by omega)).2 q1 q3 q4 q2) ?_; rintro r Γ' ⟨ev2, rfl⟩; refine n3 ?_) | refine mv ?_ | refine asn ?_ | refine jn ?_ | refine nl ?_ | refine ld rfl ?_ | refine nc ?_ | refine f0 ?_ | refine xt2 ?_ | refine sq ?_ | refine rg ?_ | refine lnb ?_ | refine lls rfl ?_ | refine ad ?_ | refine sb ?_ | refine lss ?_ | refine eql ?_ | refine neq ?_ | refine gtr ?_ | refine geq ?_ | refine leq ?_ | refine nt ?_ | refine pen ?_ | refine pnn ?_ | refine p1 ?_ | refine p0 ?_ | refine sk2 ?_ | refine kp ?_ | refine ct ?_ | refine cf ?_ | (refine cd (fun hc => ?_) (fun hc => ?_) <;> try (exfalso; omega)) | (refine cn (fun hc => ?_) (fun hc => ?_) <;> try (exfalso; omega)) | refine bl ?_ | refine ib ?_ | refine xt ?_ | refine bx (fun b_ => ?_) | refine al (fun b_ => ?_) | refine sr rfl ?_ | refine la rfl ?_ | refine ixa rfl rfl ?_ | refine fe ?_ | refine lde rfl ?_ | refine lae rfl ?_ | refine fa ?_ | refine bld ?_ | refine mf2 ?_ | refine seq ?_ | refine sne ?_ | refine cc ?_ | refine ixb ?_ | refine slb ?_ | refine slbl ?_ | refine slbh ?_ | refine cv ?_ | refine mx ?_ | refine mn ?_ | refine ml ?_ | refine af_ ?_ | (refine gd (fun hc => ?_) (fun hc => ?_) <;> try (exfalso; omega)) | (refine gn (fun hc => ?_) (fun hc => ?_) <;> try (exfalso; omega)) | refine aw ?_ | refine pes ?_ | refine pns ?_ | refine sw ?_ | refine ng ?_ | refine aeq ?_ | refine ane ?_ | refine sli rfl ?_ | refine slil rfl ?_ | refine slih rfl ?_ | refine cb (fun hc => ?_) (fun hc => ?_) | refine gs (fun hc => ?_) (fun hc => ?_) | refine J_draw (id := 11) [(0, true, []), (1, true, []), (2, true, []), (3, true, []), (4, true, []), (5, true, []), (6, true, []), (7, true, []), (8, true, []), (9, true, []), (10, true, [])] (by kernel_rfl) ?_ | refine J_draw2 (id := 16) [(0, true, []), (1, true, []), (3, true, []), (4, true, []), (5, true, []), (6, true, []), (2, false, [0, 3, 4, 5, 6]), (7, false, [0, 1]), (8, false, [0]), (9, true, []), (10, true, []), (11, false, [])] [(0, true, []), (1, true, []), (3, true, []), (4, true, []), (5, true, []), (6, true, []), (7, false, [0, 1]), (2, false, [0, 3, 4, 5, 6]), (8, false, [0]), (9, true, []), (10, true, []), (11, false, [])] (by kernel_rfl) ?_ ?_ | refine J_draw (id := 17) [(0, true, []), (1, true, []), (2, true, []), (3, true, []), (4, true, []), (5, true, []), (6, true, []), (7, true, []), (8, true, []), (9, false, []), (10, true, [])] (by kernel_rfl) ?_ | refine JS_cons rfl rfl (RO_move rfl) ?_ | refine JS_cons rfl rfl (RO_nilCheck rfl) ?_ | refine JS_cons rfl rfl (RO_fieldAddr0 rfl) ?_ | refine JS_cons rfl rfl (RO_load rfl (by rfl)) ?_ | refine JS_off rfl ?_ | refine JS_cons rfl rfl (RO_extract rfl rfl) ?_ | refine JS_cons rfl rfl (RO_not rfl) ?_ | refine JS_cons rfl rfl (RO_fieldAddr rfl) ?_ | refine JS_cons rfl rfl (RO_lnb rfl) ?_ | refine JS_cons rfl rfl (RO_lls rfl) ?_ | refine JS_cons rfl rfl (RO_add_in rfl rfl (by omega)) ?_ | refine JS_cons rfl rfl (RO_sub_in rfl rfl (by omega)) ?_ | refine JS_cons rfl rfl (RO_ixa rfl rfl (by omega)) ?_ | refine JS_cons rfl rfl (RO_fe rfl) ?_ | refine JS_cons rfl rfl (RO_lde rfl (by omega) rfl) ?_ | refine JS_cons rfl rfl (RO_slih rfl rfl (by omega)) ?_ | refine JS_cons rfl rfl (RO_slil rfl rfl (by omega)) ?_ | refine JS_offu rfl ?_ | refine JS_cons rfl rfl (RO_cc rfl rfl (by omega)) ?_ | refine JS_cons rfl rfl (RO_bld rfl (by (repeat (first | exact FillS.nil | (apply FillS.cons; rfl; rfl; constructor; rfl; (focus repeat constructor)))))) ?_ | refine JS_cons rfl rfl (RO_lae rfl (by omega) (by repeat constructor)) ?_ | refine JS_cons rfl rfl (RO_loadAgg rfl (by repeat constructor)) ?_)
      all_goals first
        | (have hj' : j < l.length := (by omega)
           exact ag (again (j + 1, (j : Int) + 1, ev2, V.put (l.getD j .none)) ⟨(by dsimp only; omega), hj', (by dsimp only; rw [hV, puts_take hj']), hP.put (q5 hj').1 (q5 hj').2⟩ (by dsimp only; omega)))
        | (have hjl : j = l.length := (by omega)
           rw [hjl, List.take_length] at hV
           subst hV
           refine rt ?_
           exact ⟨_, ⟨_, _, rfl, rfl⟩, _, by repeat constructor⟩)
theorem save_tr (w d m : Nat) (lv : Value) (W : LogS) (ev sv : Value) (D : DiskS) (hD : D.Ok) (h : Hrd) (hh : h.In) (l : List Ent) (hl : l.length ≤ 100) (hli : ∀ e ∈ l, e.In ∧ e.data.length ≤ 60000)
    (hS : W.segs ≠ []) (hSl : W.segs.length ≤ 1000) (hn0 : 0 ≤ (lastS W.segs).number) (hn1 : (lastS W.segs).number < 99) (hz0 : 0 ≤ (lastS W.segs).size) (hz1 : (lastS W.segs).size ≤ 100000000) (hR : Rise W.ents) (hLl : W.ents.length ≤ 100000) :
    Tr Tryz.prog 31 [.pointer (some ⟨w, 0, none⟩), hrdV h, lv] [sl 70 entE lv l, blk w (lcell d W.hard ev sv), sl 70 entE ev W.ents, sl 94 segE sv W.segs, blk d (dcell m D), mp fmap m D.files]
      fun v Γ => ∃ ev' sv', v = .int .i64 (W.save D h l).1 ∧ Γ = [blk w (lcell d (W.save D h l).2.1.hard ev' sv'), sl 70 entE ev' (W.save D h l).2.1.ents, sl 94 segE sv' (W.save D h l).2.1.segs, blk d (dcell m (W.save D h l).2.2), mp fmap m (W.save D h l).2.2.files] := by
  by_cases hb : h.term < 0 ∨ h.vote < 0 ∨ (l.any fun e => !e.right) = true
  · have e : W.save D h l = (1, W, D) := by unfold LogS.save; rw [if_pos hb]
    rw [e]
    exact (save_arg w d m lv W ev sv D h l hl hb).post fun v Γ ⟨h1, h2⟩ B F w hS => ⟨Γ, ⟨ev, sv, h1, h2⟩, hS⟩
  · have h0 : 0 ≤ h.term := by omega
    have h1 : 0 ≤ h.vote := by omega
    have hany : (l.any fun e => !e.right) = false := by
      cases hx : (l.any fun e => !e.right)
      · rfl
      · exact absurd (.inr (.inr hx)) hb
    by_cases hm : more W.segs
    · exact save_more w d m lv W ev sv D hD h hh l hl hli h0 h1 hany hS hSl hn0 hn1 hz0 hz1 hR hLl hm
    · exact save_same w d m lv W ev sv D hD h hh l hl hli h0 h1 hany hS hSl hn0 hn1 hz0 hz1 hR hLl hm
end Go.Proofs.YtaeefjcbmkiiaaaGreatDoor
/- The law's helpers: what of a raw number is meant; acts, their entries and hard states; are entries the same. -/
namespace Go.Proofs.YtaeefjcbmkiiaaaGreatDoor
open Go Sl
attribute [local irreducible] J JR JS RO CR Arr Sat Tr sat blk
set_option linter.unusedVariables false
set_option maxHeartbeats 2000000
set_option maxRecDepth 4000
def pickI (c n : Int) : Int := (if c < 0 then -(c + 1) else c) % n
theorem pickI_lt (c : Int) {n : Int} (h : 0 < n) : 0 ≤ pickI c n ∧ pickI c n < n := ⟨Int.emod_nonneg _ (by omega), Int.emod_lt_of_pos _ h⟩
theorem pick_tr (c n : Int) (hc : I64 c) (hn : 0 < n) : Tr Tryz.prog 11 [.int .i64 c, .int .i64 n] [] fun v Γ => v = .int .i64 (pickI c n) ∧ Γ = [] := by
  have hc1 := hc.1
  have hc2 := hc.2
  have hneg : c < 0 → IntKind.i64.wrap (0 - (c + 1)) = -(c + 1) := fun h => by
    rw [show 0 - (c + 1) = -(c + 1) by omega]; exact wrap_in (by omega) (by omega)
  have hr1 : c < 0 → (-(c + 1)).tmod n = pickI c n := fun h => by
    unfold pickI; rw [if_pos h, Int.tmod_eq_emod_of_nonneg (by omega)]
  have hr2 : ¬ c < 0 → c.tmod n = pickI c n := fun h => by
    unfold pickI; rw [if_neg h, Int.tmod_eq_emod_of_nonneg (by omega)]
  refine Tr_of_J Tryz.func11 follows rfl Tryz.ntmps11 (by simp) fun B F => ?_
  by_cases h : c < 0
  · repeat' (first | refine ngr ?_ (hneg h) | refine rem ?_ (hr1 h) | refine mv ?_ | refine asn ?_ | refine jn ?_ | refine nl ?_ | refine ld rfl ?_ | refine nc ?_ | refine f0 ?_ | refine xt2 ?_ | refine sq ?_ | refine rg ?_ | refine lnb ?_ | refine lls rfl ?_ | refine ad ?_ | refine sb ?_ | refine lss ?_ | refine eql ?_ | refine neq ?_ | refine gtr ?_ | refine geq ?_ | refine leq ?_ | refine nt ?_ | refine pen ?_ | refine pnn ?_ | refine p1 ?_ | refine p0 ?_ | refine sk2 ?_ | refine kp ?_ | refine ct ?_ | refine cf ?_ | (refine cd (fun hc => ?_) (fun hc => ?_) <;> try (exfalso; omega)) | (refine cn (fun hc => ?_) (fun hc => ?_) <;> try (exfalso; omega)) | refine bl ?_ | refine ib ?_ | refine xt ?_ | refine bx (fun b_ => ?_) | refine al (fun b_ => ?_) | refine sr rfl ?_ | refine la rfl ?_ | refine ixa rfl rfl ?_ | refine fe ?_ | refine lde rfl ?_ | refine lae rfl ?_ | refine fa ?_ | refine bld ?_ | refine mf2 ?_ | refine seq ?_ | refine sne ?_ | refine cc ?_ | refine ixb ?_ | refine slb ?_ | refine slbl ?_ | refine slbh ?_ | refine cv ?_ | refine mx ?_ | refine mn ?_ | refine ml ?_ | refine af_ ?_ | (refine gd (fun hc => ?_) (fun hc => ?_) <;> try (exfalso; omega)) | (refine gn (fun hc => ?_) (fun hc => ?_) <;> try (exfalso; omega)) | refine aw ?_ | refine pes ?_ | refine pns ?_ | refine sw ?_ | refine ng ?_ | refine aeq ?_ | refine ane ?_ | refine sli rfl ?_ | refine slil rfl ?_ | refine slih rfl ?_ | refine cb (fun hc => ?_) (fun hc => ?_) | refine gs (fun hc => ?_) (fun hc => ?_))
    refine rt ?_
    exact ⟨_, ⟨rfl, rfl⟩, _, by repeat constructor⟩
  · repeat' (first | refine rem ?_ (hr2 h) | refine mv ?_ | refine asn ?_ | refine jn ?_ | refine nl ?_ | refine ld rfl ?_ | refine nc ?_ | refine f0 ?_ | refine xt2 ?_ | refine sq ?_ | refine rg ?_ | refine lnb ?_ | refine lls rfl ?_ | refine ad ?_ | refine sb ?_ | refine lss ?_ | refine eql ?_ | refine neq ?_ | refine gtr ?_ | refine geq ?_ | refine leq ?_ | refine nt ?_ | refine pen ?_ | refine pnn ?_ | refine p1 ?_ | refine p0 ?_ | refine sk2 ?_ | refine kp ?_ | refine ct ?_ | refine cf ?_ | (refine cd (fun hc => ?_) (fun hc => ?_) <;> try (exfalso; omega)) | (refine cn (fun hc => ?_) (fun hc => ?_) <;> try (exfalso; omega)) | refine bl ?_ | refine ib ?_ | refine xt ?_ | refine bx (fun b_ => ?_) | refine al (fun b_ => ?_) | refine sr rfl ?_ | refine la rfl ?_ | refine ixa rfl rfl ?_ | refine fe ?_ | refine lde rfl ?_ | refine lae rfl ?_ | refine fa ?_ | refine bld ?_ | refine mf2 ?_ | refine seq ?_ | refine sne ?_ | refine cc ?_ | refine ixb ?_ | refine slb ?_ | refine slbl ?_ | refine slbh ?_ | refine cv ?_ | refine mx ?_ | refine mn ?_ | refine ml ?_ | refine af_ ?_ | (refine gd (fun hc => ?_) (fun hc => ?_) <;> try (exfalso; omega)) | (refine gn (fun hc => ?_) (fun hc => ?_) <;> try (exfalso; omega)) | refine aw ?_ | refine pes ?_ | refine pns ?_ | refine sw ?_ | refine ng ?_ | refine aeq ?_ | refine ane ?_ | refine sli rfl ?_ | refine slil rfl ?_ | refine slih rfl ?_ | refine cb (fun hc => ?_) (fun hc => ?_) | refine gs (fun hc => ?_) (fun hc => ?_))
    refine rt ?_
    exact ⟨_, ⟨rfl, rfl⟩, _, by repeat constructor⟩
theorem entry_tr (i t : Int) (s : List UInt8) : Tr Tryz.prog 32 [.int .i64 i, .int .i64 t, vs s] [] fun v Γ => v = entV ⟨i, t, 2, s⟩ ∧ Γ = [] := by
  refine Tr_of_J Tryz.func32 follows rfl Tryz.ntmps32 (by simp) fun B F => ?_
  repeat' (first | refine mv ?_ | refine asn ?_ | refine jn ?_ | refine nl ?_ | refine ld rfl ?_ | refine nc ?_ | refine f0 ?_ | refine xt2 ?_ | refine sq ?_ | refine rg ?_ | refine lnb ?_ | refine lls rfl ?_ | refine ad ?_ | refine sb ?_ | refine lss ?_ | refine eql ?_ | refine neq ?_ | refine gtr ?_ | refine geq ?_ | refine leq ?_ | refine nt ?_ | refine pen ?_ | refine pnn ?_ | refine p1 ?_ | refine p0 ?_ | refine sk2 ?_ | refine kp ?_ | refine ct ?_ | refine cf ?_ | (refine cd (fun hc => ?_) (fun hc => ?_) <;> try (exfalso; omega)) | (refine cn (fun hc => ?_) (fun hc => ?_) <;> try (exfalso; omega)) | refine bl ?_ | refine ib ?_ | refine xt ?_ | refine bx (fun b_ => ?_) | refine al (fun b_ => ?_) | refine sr rfl ?_ | refine la rfl ?_ | refine ixa rfl rfl ?_ | refine fe ?_ | refine lde rfl ?_ | refine lae rfl ?_ | refine fa ?_ | refine bld ?_ | refine mf2 ?_ | refine seq ?_ | refine sne ?_ | refine cc ?_ | refine ixb ?_ | refine slb ?_ | refine slbl ?_ | refine slbh ?_ | refine cv ?_ | refine mx ?_ | refine mn ?_ | refine ml ?_ | refine af_ ?_ | (refine gd (fun hc => ?_) (fun hc => ?_) <;> try (exfalso; omega)) | (refine gn (fun hc => ?_) (fun hc => ?_) <;> try (exfalso; omega)) | refine aw ?_ | refine pes ?_ | refine pns ?_ | refine sw ?_ | refine ng ?_ | refine aeq ?_ | refine ane ?_ | refine sli rfl ?_ | refine slil rfl ?_ | refine slih rfl ?_ | refine cb (fun hc => ?_) (fun hc => ?_) | refine gs (fun hc => ?_) (fun hc => ?_))
  refine rt ?_ rfl (.agg rfl (by repeat constructor) (by repeat constructor))
  exact ⟨_, ⟨rfl, rfl⟩, _, by repeat constructor⟩
/-- What is done. -/
structure Act where
  op : Int
  term : Int
  vote : Int
  idx : Int
  n : Int
  data : List UInt8
  kq : Option Addr
  kn : Nat
  km : Nat
  nq : Option Addr
  nn : Nat
  nm : Nat
def actE : EncT Act where
  enc a := [.int .i64 a.op, .int .i64 a.term, .int .i64 a.vote, .int .i64 a.idx, .int .i64 a.n, vs a.data, .slice a.kq a.kn a.km, .slice a.nq a.nn a.nm]
  dec := fun l => match l with | [.int _ a, .int _ b, .int _ c, .int _ d, .int _ e, .string s, .slice q n m, .slice q' n' m'] => ⟨a, b, c, d, e, s.data.toList, q, n, m, q', n', m'⟩ | _ => ⟨0, 0, 0, 0, 0, [], none, 0, 0, none, 0, 0⟩
  sz := 8
  dflt := ⟨0, 0, 0, 0, 0, [], none, 0, 0, none, 0, 0⟩
  len _ := rfl
  ok _ := rfl
  pos := by decide
abbrev actV (a : Act) : Value := .agg ⟨[.int .i64 a.op, .int .i64 a.term, .int .i64 a.vote, .int .i64 a.idx, .int .i64 a.n, vs a.data, .slice a.kq a.kn a.km, .slice a.nq a.nn a.nm]⟩
structure Act.In (a : Act) : Prop where
  o : I64 a.op
  t : I64 a.term
  v : I64 a.vote
  i : I64 a.idx
  n : I64 a.n
def hardOf (a : Act) : Hrd := if a.term.tmod 41 = 0 ∧ a.term ≠ 0 then ⟨a.term, a.vote⟩ else ⟨pickI a.term 20, pickI a.vote 4⟩
def entOf (a : Act) (i : Nat) : Ent := if a.idx.tmod 37 = 0 ∧ a.idx ≠ 0 then ⟨a.idx, pickI a.term 20, a.n, a.data⟩ else ⟨1 + pickI a.idx 30 + i, pickI a.term 20, 2, a.data⟩
def entriesOf (a : Act) : List Ent := (List.range (pickI a.n 5).toNat).map (entOf a)
theorem hardOf_tr (a : Act) (ha : a.In) : Tr Tryz.prog 24 [actV a] [] fun v Γ => v = hrdV (hardOf a) ∧ Γ = [] := by
  refine Tr_of_J Tryz.func24 follows rfl Tryz.ntmps24 (by simp) fun B F => ?_
  repeat' (first | refine rem ?_ | (refine cle rfl (pick_tr a.term 20 ha.t (by decide)) ?_; rintro r Γ' ⟨rfl, rfl⟩; refine n0 ?_) | (refine cle rfl (pick_tr a.vote 4 ha.v (by decide)) ?_; rintro r Γ' ⟨rfl, rfl⟩; refine n0 ?_) | refine mv ?_ | refine asn ?_ | refine jn ?_ | refine nl ?_ | refine ld rfl ?_ | refine nc ?_ | refine f0 ?_ | refine xt2 ?_ | refine sq ?_ | refine rg ?_ | refine lnb ?_ | refine lls rfl ?_ | refine ad ?_ | refine sb ?_ | refine lss ?_ | refine eql ?_ | refine neq ?_ | refine gtr ?_ | refine geq ?_ | refine leq ?_ | refine nt ?_ | refine pen ?_ | refine pnn ?_ | refine p1 ?_ | refine p0 ?_ | refine sk2 ?_ | refine kp ?_ | refine ct ?_ | refine cf ?_ | (refine cd (fun hc => ?_) (fun hc => ?_) <;> try (exfalso; omega)) | (refine cn (fun hc => ?_) (fun hc => ?_) <;> try (exfalso; omega)) | refine bl ?_ | refine ib ?_ | refine xt ?_ | refine bx (fun b_ => ?_) | refine al (fun b_ => ?_) | refine sr rfl ?_ | refine la rfl ?_ | refine ixa rfl rfl ?_ | refine fe ?_ | refine lde rfl ?_ | refine lae rfl ?_ | refine fa ?_ | refine bld ?_ | refine mf2 ?_ | refine seq ?_ | refine sne ?_ | refine cc ?_ | refine ixb ?_ | refine slb ?_ | refine slbl ?_ | refine slbh ?_ | refine cv ?_ | refine mx ?_ | refine mn ?_ | refine ml ?_ | refine af_ ?_ | (refine gd (fun hc => ?_) (fun hc => ?_) <;> try (exfalso; omega)) | (refine gn (fun hc => ?_) (fun hc => ?_) <;> try (exfalso; omega)) | refine aw ?_ | refine pes ?_ | refine pns ?_ | refine sw ?_ | refine ng ?_ | refine aeq ?_ | refine ane ?_ | refine sli rfl ?_ | refine slil rfl ?_ | refine slih rfl ?_ | refine cb (fun hc => ?_) (fun hc => ?_) | refine gs (fun hc => ?_) (fun hc => ?_) | refine J_draw (id := 3) [(0, true, []), (1, true, []), (3, true, []), (4, true, []), (2, false, [3, 4]), (5, false, []), (6, true, []), (7, false, [])] (by kernel_rfl) ?_ | refine JS_cons rfl rfl (RO_move rfl) ?_ | refine JS_cons rfl rfl (RO_nilCheck rfl) ?_ | refine JS_cons rfl rfl (RO_fieldAddr0 rfl) ?_ | refine JS_cons rfl rfl (RO_load rfl (by rfl)) ?_ | refine JS_off rfl ?_ | refine JS_cons rfl rfl (RO_extract rfl rfl) ?_ | refine JS_cons rfl rfl (RO_not rfl) ?_ | refine JS_cons rfl rfl (RO_fieldAddr rfl) ?_ | refine JS_cons rfl rfl (RO_lnb rfl) ?_ | refine JS_cons rfl rfl (RO_lls rfl) ?_ | refine JS_cons rfl rfl (RO_add_in rfl rfl (by omega)) ?_ | refine JS_cons rfl rfl (RO_sub_in rfl rfl (by omega)) ?_ | refine JS_cons rfl rfl (RO_ixa rfl rfl (by omega)) ?_ | refine JS_cons rfl rfl (RO_fe rfl) ?_ | refine JS_cons rfl rfl (RO_lde rfl (by omega) rfl) ?_ | refine JS_cons rfl rfl (RO_slih rfl rfl (by omega)) ?_ | refine JS_cons rfl rfl (RO_slil rfl rfl (by omega)) ?_ | refine JS_offu rfl ?_ | refine JS_cons rfl rfl (RO_cc rfl rfl (by omega)) ?_ | refine JS_cons rfl rfl (RO_bld rfl (by (repeat (first | exact FillS.nil | (apply FillS.cons; rfl; rfl; constructor; rfl; (focus repeat constructor)))))) ?_ | refine JS_cons rfl rfl (RO_lae rfl (by omega) (by repeat constructor)) ?_ | refine JS_cons rfl rfl (RO_loadAgg rfl (by repeat constructor)) ?_)
  · rw [show hardOf a = ⟨a.term, a.vote⟩ from if_pos ⟨by assumption, by assumption⟩]
    refine rt ?_ rfl (.agg rfl (by repeat constructor) (by repeat constructor))
    exact ⟨_, ⟨rfl, rfl⟩, _, by repeat constructor⟩
  · rw [show hardOf a = ⟨pickI a.term 20, pickI a.vote 4⟩ from if_neg (by rintro ⟨_, h⟩; exact h (by assumption))]
    refine rt ?_ rfl (.agg rfl (by repeat constructor) (by repeat constructor))
    exact ⟨_, ⟨rfl, rfl⟩, _, by repeat constructor⟩
  · rw [show hardOf a = ⟨pickI a.term 20, pickI a.vote 4⟩ from if_neg (by rintro ⟨h, _⟩; exact absurd h (by assumption))]
    refine rt ?_ rfl (.agg rfl (by repeat constructor) (by repeat constructor))
    exact ⟨_, ⟨rfl, rfl⟩, _, by repeat constructor⟩
theorem eqE (a b : Ent) : eqCells [.int .i64 a.index, .int .i64 a.term, .int .i64 a.kind, vs a.data] [.int .i64 b.index, .int .i64 b.term, .int .i64 b.kind, vs b.data] = decide (a = b) := by
  obtain ⟨a1, a2, a3, a4⟩ := a
  obtain ⟨b1, b2, b3, b4⟩ := b
  simp only [eqCells, eqCell, Ent.mk.injEq, Bool.and_true]
  by_cases h1 : a1 = b1 <;> by_cases h2 : a2 = b2 <;> by_cases h3 : a3 = b3 <;> by_cases h4 : a4 = b4 <;> simp [h1, h2, h3, h4, bs_inj]
theorem sameEntries_tr (v1 v2 : Value) (L1 L2 : List Ent) (h1 : L1.length ≤ 1000000) (h2 : L2.length ≤ 1000000) : Tr Tryz.prog 18 [v1, v2] [sl 70 entE v1 L1, sl 70 entE v2 L2]
    fun v Γ => v = .bool (decide (L1 = L2)) ∧ Γ = [sl 70 entE v1 L1, sl 70 entE v2 L2] := by
  refine Tr_of_J Tryz.func18 follows rfl Tryz.ntmps18 (by simp) fun B F => ?_
  repeat' (first | refine mv ?_ | refine asn ?_ | refine jn ?_ | refine nl ?_ | refine ld rfl ?_ | refine nc ?_ | refine f0 ?_ | refine xt2 ?_ | refine sq ?_ | refine rg ?_ | refine lnb ?_ | refine lls rfl ?_ | refine ad ?_ | refine sb ?_ | refine lss ?_ | refine eql ?_ | refine neq ?_ | refine gtr ?_ | refine geq ?_ | refine leq ?_ | refine nt ?_ | refine pen ?_ | refine pnn ?_ | refine p1 ?_ | refine p0 ?_ | refine sk2 ?_ | refine kp ?_ | refine ct ?_ | refine cf ?_ | (refine cd (fun hc => ?_) (fun hc => ?_) <;> try (exfalso; omega)) | (refine cn (fun hc => ?_) (fun hc => ?_) <;> try (exfalso; omega)) | refine bl ?_ | refine ib ?_ | refine xt ?_ | refine bx (fun b_ => ?_) | refine al (fun b_ => ?_) | refine sr rfl ?_ | refine la rfl ?_ | refine ixa rfl rfl ?_ | refine fe ?_ | refine lde rfl ?_ | refine lae rfl ?_ | refine fa ?_ | refine bld ?_ | refine mf2 ?_ | refine seq ?_ | refine sne ?_ | refine cc ?_ | refine ixb ?_ | refine slb ?_ | refine slbl ?_ | refine slbh ?_ | refine cv ?_ | refine mx ?_ | refine mn ?_ | refine ml ?_ | refine af_ ?_ | (refine gd (fun hc => ?_) (fun hc => ?_) <;> try (exfalso; omega)) | (refine gn (fun hc => ?_) (fun hc => ?_) <;> try (exfalso; omega)) | refine aw ?_ | refine pes ?_ | refine pns ?_ | refine sw ?_ | refine ng ?_ | refine aeq ?_ | refine ane ?_ | refine sli rfl ?_ | refine slil rfl ?_ | refine slih rfl ?_ | refine cb (fun hc => ?_) (fun hc => ?_) | refine gs (fun hc => ?_) (fun hc => ?_) | refine J_draw (id := 6) [(0, true, []), (1, true, []), (2, true, []), (3, true, []), (4, true, []), (5, true, []), (6, true, []), (7, true, []), (8, true, [])] (by kernel_rfl) ?_)
  · have h3 : ¬ L1 = L2 := by rintro rfl; exact absurd rfl (by assumption)
    rw [show decide (L1 = L2) = false from decide_eq_false h3]
    refine rt ?_
    exact ⟨_, ⟨rfl, rfl⟩, _, by repeat constructor⟩
  have hlen : L1.length = L2.length := by omega
  refine lp (α := Nat × Int) (fun y => [(0, v1), (1, v2), (5, .int .i64 y.2)]) (fun y => [sl 70 entE v1 L1, sl 70 entE v2 L2]) (fun y => y.2 = (y.1 : Int) ∧ y.1 ≤ L1.length ∧ L1.take y.1 = L2.take y.1) (fun y => L1.length - y.1) (0, 0) ?_ ⟨rfl, Nat.zero_le _, by simp⟩
  rintro ⟨i, n⟩ ⟨hn, hi, hr⟩ again
  dsimp only at hn hi hr again ⊢
  subst hn
  repeat' (first | refine mv ?_ | refine asn ?_ | refine jn ?_ | refine nl ?_ | refine ld rfl ?_ | refine nc ?_ | refine f0 ?_ | refine xt2 ?_ | refine sq ?_ | refine rg ?_ | refine lnb ?_ | refine lls rfl ?_ | refine ad ?_ | refine sb ?_ | refine lss ?_ | refine eql ?_ | refine neq ?_ | refine gtr ?_ | refine geq ?_ | refine leq ?_ | refine nt ?_ | refine pen ?_ | refine pnn ?_ | refine p1 ?_ | refine p0 ?_ | refine sk2 ?_ | refine kp ?_ | refine ct ?_ | refine cf ?_ | (refine cd (fun hc => ?_) (fun hc => ?_) <;> try (exfalso; omega)) | (refine cn (fun hc => ?_) (fun hc => ?_) <;> try (exfalso; omega)) | refine bl ?_ | refine ib ?_ | refine xt ?_ | refine bx (fun b_ => ?_) | refine al (fun b_ => ?_) | refine sr rfl ?_ | refine la rfl ?_ | refine ixa rfl rfl ?_ | refine fe ?_ | refine lde rfl ?_ | refine lae rfl ?_ | refine fa ?_ | refine bld ?_ | refine mf2 ?_ | refine seq ?_ | refine sne ?_ | refine cc ?_ | refine ixb ?_ | refine slb ?_ | refine slbl ?_ | refine slbh ?_ | refine cv ?_ | refine mx ?_ | refine mn ?_ | refine ml ?_ | refine af_ ?_ | (refine gd (fun hc => ?_) (fun hc => ?_) <;> try (exfalso; omega)) | (refine gn (fun hc => ?_) (fun hc => ?_) <;> try (exfalso; omega)) | refine aw ?_ | refine pes ?_ | refine pns ?_ | refine sw ?_ | refine ng ?_ | refine aeq ?_ | refine ane ?_ | refine sli rfl ?_ | refine slil rfl ?_ | refine slih rfl ?_ | refine cb (fun hc => ?_) (fun hc => ?_) | refine gs (fun hc => ?_) (fun hc => ?_) | refine J_draw (id := 6) [(0, true, []), (1, true, []), (2, true, []), (3, true, []), (4, true, []), (5, true, []), (6, true, []), (7, true, []), (8, true, [])] (by kernel_rfl) ?_)
  · have hi' : i < L1.length := by omega
    have h3 : ¬ L1 = L2 := by
      rintro rfl
      have h5 := hc
      rw [eqE] at h5; simp at h5
    rw [show decide (L1 = L2) = false from decide_eq_false h3]
    refine rt ?_
    exact ⟨_, ⟨rfl, rfl⟩, _, by repeat constructor⟩
  · have hi' : i < L1.length := by omega
    have h5 := hc
    rw [eqE] at h5
    have h6 : L1.getD i .none = L2.getD i .none := by
      have h7 : decide (L1.getD (i : Int).toNat entE.dflt = L2.getD (i : Int).toNat entE.dflt) = true := by simpa only [Bool.not_eq_false', Bool.not_eq_eq_eq_not, Bool.not_false] using h5
      exact of_decide_eq_true h7
    exact ag (again (i + 1, (i : Int) + 1) ⟨by dsimp only; omega, hi', by
      dsimp only
      rw [List.take_succ_eq_append_getElem hi', List.take_succ_eq_append_getElem (by omega), hr, ← getD_of hi', ← getD_of (by omega), h6]⟩ (by dsimp only; omega))
  · have hil : i = L1.length := by omega
    have h3 : L1 = L2 := by
      rw [hil, List.take_length, hlen, List.take_length] at hr; exact hr
    rw [show decide (L1 = L2) = true from decide_eq_true h3]
    refine rt ?_
    exact ⟨_, ⟨rfl, rfl⟩, _, by repeat constructor⟩
theorem entOf_take (a : Act) {i : Nat} : (List.range (i + 1)).map (entOf a) = (List.range i).map (entOf a) ++ [entOf a i] := by rw [List.range_succ, List.map_append]; rfl
theorem entriesOf_tr (a : Act) (ha : a.In) (hd : a.data.length ≤ 1000000) : Tr Tryz.prog 23 [actV a] [] fun v Γ => Γ = [sl 70 entE v (entriesOf a)] := by
  have hp := pickI_lt a.n (n := 5) (by decide)
  have hp2 := pickI_lt a.idx (n := 30) (by decide)
  have hp3 := pickI_lt a.term (n := 20) (by decide)
  refine Tr_of_J Tryz.func23 follows rfl Tryz.ntmps23 (by simp) fun B F => ?_
  repeat' (first | refine mv ?_ | refine asn ?_ | refine jn ?_ | refine nl ?_ | refine ld rfl ?_ | refine nc ?_ | refine f0 ?_ | refine xt2 ?_ | refine sq ?_ | refine rg ?_ | refine lnb ?_ | refine lls rfl ?_ | refine ad ?_ | refine sb ?_ | refine lss ?_ | refine eql ?_ | refine neq ?_ | refine gtr ?_ | refine geq ?_ | refine leq ?_ | refine nt ?_ | refine pen ?_ | refine pnn ?_ | refine p1 ?_ | refine p0 ?_ | refine sk2 ?_ | refine kp ?_ | refine ct ?_ | refine cf ?_ | (refine cd (fun hc => ?_) (fun hc => ?_) <;> try (exfalso; omega)) | (refine cn (fun hc => ?_) (fun hc => ?_) <;> try (exfalso; omega)) | refine bl ?_ | refine ib ?_ | refine xt ?_ | refine bx (fun b_ => ?_) | refine al (fun b_ => ?_) | refine sr rfl ?_ | refine la rfl ?_ | refine ixa rfl rfl ?_ | refine fe ?_ | refine lde rfl ?_ | refine lae rfl ?_ | refine fa ?_ | refine bld ?_ | refine mf2 ?_ | refine seq ?_ | refine sne ?_ | refine cc ?_ | refine ixb ?_ | refine slb ?_ | refine slbl ?_ | refine slbh ?_ | refine cv ?_ | refine mx ?_ | refine mn ?_ | refine ml ?_ | refine af_ ?_ | (refine gd (fun hc => ?_) (fun hc => ?_) <;> try (exfalso; omega)) | (refine gn (fun hc => ?_) (fun hc => ?_) <;> try (exfalso; omega)) | refine aw ?_ | refine pes ?_ | refine pns ?_ | refine sw ?_ | refine ng ?_ | refine aeq ?_ | refine ane ?_ | refine sli rfl ?_ | refine slil rfl ?_ | refine slih rfl ?_ | refine cb (fun hc => ?_) (fun hc => ?_) | refine gs (fun hc => ?_) (fun hc => ?_) | refine J_draw4 (id := 5) [(0, true, []), (1, true, []), (4, true, []), (6, true, []), (7, true, []), (9, true, []), (10, true, []), (2, false, [4, 6, 7, 9, 10]), (3, true, []), (5, true, []), (8, false, [4, 9, 10, 3, 5]), (11, false, []), (12, false, [0, 1, 4, 6, 7, 9, 10, 3, 5]), (13, false, [])] [(0, true, []), (1, true, []), (4, true, []), (6, true, []), (7, true, []), (9, true, []), (10, true, []), (2, false, [4, 6, 7, 9, 10]), (3, true, []), (5, true, []), (8, false, [4, 9, 10, 3, 5]), (12, false, [0, 1, 4, 6, 7, 9, 10, 3, 5]), (11, false, []), (13, false, [])] [(0, true, []), (1, true, []), (4, true, []), (6, true, []), (7, true, []), (9, true, []), (10, true, []), (2, false, [4, 6, 7, 9, 10]), (3, true, []), (5, true, []), (12, false, [0, 1, 4, 6, 7, 9, 10, 3, 5]), (8, false, [4, 9, 10, 3, 5]), (11, false, []), (13, false, [])] [(0, true, []), (1, true, []), (4, true, []), (6, true, []), (7, true, []), (9, true, []), (10, true, []), (12, false, [0, 1, 4, 6, 7, 9, 10]), (2, false, [4, 6, 7, 9, 10]), (3, true, []), (5, true, []), (8, false, [4, 9, 10, 3, 5]), (11, false, []), (13, false, [])] (by kernel_rfl) ?_ ?_ ?_ ?_ | refine JS_cons rfl rfl (RO_move rfl) ?_ | refine JS_cons rfl rfl (RO_nilCheck rfl) ?_ | refine JS_cons rfl rfl (RO_fieldAddr0 rfl) ?_ | refine JS_cons rfl rfl (RO_load rfl (by rfl)) ?_ | refine JS_off rfl ?_ | refine JS_cons rfl rfl (RO_extract rfl rfl) ?_ | refine JS_cons rfl rfl (RO_not rfl) ?_ | refine JS_cons rfl rfl (RO_fieldAddr rfl) ?_ | refine JS_cons rfl rfl (RO_lnb rfl) ?_ | refine JS_cons rfl rfl (RO_lls rfl) ?_ | refine JS_cons rfl rfl (RO_add_in rfl rfl (by omega)) ?_ | refine JS_cons rfl rfl (RO_sub_in rfl rfl (by omega)) ?_ | refine JS_cons rfl rfl (RO_ixa rfl rfl (by omega)) ?_ | refine JS_cons rfl rfl (RO_fe rfl) ?_ | refine JS_cons rfl rfl (RO_lde rfl (by omega) rfl) ?_ | refine JS_cons rfl rfl (RO_slih rfl rfl (by omega)) ?_ | refine JS_cons rfl rfl (RO_slil rfl rfl (by omega)) ?_ | refine JS_offu rfl ?_ | refine JS_cons rfl rfl (RO_cc rfl rfl (by omega)) ?_ | refine JS_cons rfl rfl (RO_bld rfl (by (repeat (first | exact FillS.nil | (apply FillS.cons; rfl; rfl; constructor; rfl; (focus repeat constructor)))))) ?_ | refine JS_cons rfl rfl (RO_lae rfl (by omega) (by repeat constructor)) ?_ | refine JS_cons rfl rfl (RO_loadAgg rfl (by repeat constructor)) ?_)
  refine J_sat (Γ' := sl 70 entE (.slice none 0 0) [] :: _) ?_ fun w hS => sl_nil hS
  refine lp (α := Nat × Int × Value × List Ent) (fun y => [(1, .pointer (some ⟨b_, 0, none⟩)), (3, y.2.2.1), (4, .int .i64 y.2.1)]) (fun y => [sl 70 entE y.2.2.1 y.2.2.2, blk b_ (.cells ⟨[.int .i64 a.op, .int .i64 a.term, .int .i64 a.vote, .int .i64 a.idx, .int .i64 a.n, vs a.data, .slice a.kq a.kn a.km, .slice a.nq a.nn a.nm]⟩ 34 (0, 0))]) (fun y => y.2.1 = (y.1 : Int) ∧ (y.1 : Int) ≤ pickI a.n 5 ∧ y.2.2.2 = (List.range y.1).map (entOf a)) (fun y => (pickI a.n 5).toNat - y.1) (0, 0, .slice none 0 0, []) ?_ ⟨rfl, hp.1, rfl⟩
  by_cases hx : a.idx.tmod 37 = 0 ∧ a.idx ≠ 0
  · rintro ⟨i, n, v, X⟩ ⟨hn, hi, hX⟩ again
    dsimp only at hn hi hX again ⊢
    subst hn
    have hXl : X.length ≤ 5 := by rw [hX, List.length_map, List.length_range]; omega
    have hent : entOf a i = ⟨a.idx, pickI a.term 20, a.n, a.data⟩ := if_pos hx
    obtain ⟨hx1, hx2⟩ := hx
    repeat' (first | refine rem ?_ | (refine cle rfl (pick_tr a.n 5 ha.n (by decide)) ?_; rintro r Γ' ⟨rfl, rfl⟩; refine n0 ?_) | (refine cle rfl (pick_tr a.idx 30 ha.i (by decide)) ?_; rintro r Γ' ⟨rfl, rfl⟩; refine n0 ?_) | (refine cle rfl (pick_tr a.term 20 ha.t (by decide)) ?_; rintro r Γ' ⟨rfl, rfl⟩; refine n0 ?_) | (refine cle rfl (entry_tr (1 + pickI a.idx 30 + i) (pickI a.term 20) a.data) ?_; rintro r Γ' ⟨rfl, rfl⟩; refine n0 ?_) | refine bsl (e := entE) (X := [⟨a.idx, pickI a.term 20, a.n, a.data⟩]) (fun v2 => ?_) (.cona rfl rfl .nil) | refine apo rfl rfl (fun v3 => ?_) (by simp; omega) (by simp; omega) | refine mv ?_ | refine asn ?_ | refine jn ?_ | refine nl ?_ | refine ld rfl ?_ | refine nc ?_ | refine f0 ?_ | refine xt2 ?_ | refine sq ?_ | refine rg ?_ | refine lnb ?_ | refine lls rfl ?_ | refine ad ?_ | refine sb ?_ | refine lss ?_ | refine eql ?_ | refine neq ?_ | refine gtr ?_ | refine geq ?_ | refine leq ?_ | refine nt ?_ | refine pen ?_ | refine pnn ?_ | refine p1 ?_ | refine p0 ?_ | refine sk2 ?_ | refine kp ?_ | refine ct ?_ | refine cf ?_ | (refine cd (fun hc => ?_) (fun hc => ?_) <;> try (exfalso; omega)) | (refine cn (fun hc => ?_) (fun hc => ?_) <;> try (exfalso; omega)) | refine bl ?_ | refine ib ?_ | refine xt ?_ | refine bx (fun b_ => ?_) | refine al (fun b_ => ?_) | refine sr rfl ?_ | refine la rfl ?_ | refine ixa rfl rfl ?_ | refine fe ?_ | refine lde rfl ?_ | refine lae rfl ?_ | refine fa ?_ | refine bld ?_ | refine mf2 ?_ | refine seq ?_ | refine sne ?_ | refine cc ?_ | refine ixb ?_ | refine slb ?_ | refine slbl ?_ | refine slbh ?_ | refine cv ?_ | refine mx ?_ | refine mn ?_ | refine ml ?_ | refine af_ ?_ | (refine gd (fun hc => ?_) (fun hc => ?_) <;> try (exfalso; omega)) | (refine gn (fun hc => ?_) (fun hc => ?_) <;> try (exfalso; omega)) | refine aw ?_ | refine pes ?_ | refine pns ?_ | refine sw ?_ | refine ng ?_ | refine aeq ?_ | refine ane ?_ | refine sli rfl ?_ | refine slil rfl ?_ | refine slih rfl ?_ | refine cb (fun hc => ?_) (fun hc => ?_) | refine gs (fun hc => ?_) (fun hc => ?_) | refine J_draw4 (id := 5) [(0, true, []), (1, true, []), (4, true, []), (6, true, []), (7, true, []), (9, true, []), (10, true, []), (2, false, [4, 6, 7, 9, 10]), (3, true, []), (5, true, []), (8, false, [4, 9, 10, 3, 5]), (11, false, []), (12, false, [0, 1, 4, 6, 7, 9, 10, 3, 5]), (13, false, [])] [(0, true, []), (1, true, []), (4, true, []), (6, true, []), (7, true, []), (9, true, []), (10, true, []), (2, false, [4, 6, 7, 9, 10]), (3, true, []), (5, true, []), (8, false, [4, 9, 10, 3, 5]), (12, false, [0, 1, 4, 6, 7, 9, 10, 3, 5]), (11, false, []), (13, false, [])] [(0, true, []), (1, true, []), (4, true, []), (6, true, []), (7, true, []), (9, true, []), (10, true, []), (2, false, [4, 6, 7, 9, 10]), (3, true, []), (5, true, []), (12, false, [0, 1, 4, 6, 7, 9, 10, 3, 5]), (8, false, [4, 9, 10, 3, 5]), (11, false, []), (13, false, [])] [(0, true, []), (1, true, []), (4, true, []), (6, true, []), (7, true, []), (9, true, []), (10, true, []), (12, false, [0, 1, 4, 6, 7, 9, 10]), (2, false, [4, 6, 7, 9, 10]), (3, true, []), (5, true, []), (8, false, [4, 9, 10, 3, 5]), (11, false, []), (13, false, [])] (by kernel_rfl) ?_ ?_ ?_ ?_ | refine JS_cons rfl rfl (RO_move rfl) ?_ | refine JS_cons rfl rfl (RO_nilCheck rfl) ?_ | refine JS_cons rfl rfl (RO_fieldAddr0 rfl) ?_ | refine JS_cons rfl rfl (RO_load rfl (by rfl)) ?_ | refine JS_off rfl ?_ | refine JS_cons rfl rfl (RO_extract rfl rfl) ?_ | refine JS_cons rfl rfl (RO_not rfl) ?_ | refine JS_cons rfl rfl (RO_fieldAddr rfl) ?_ | refine JS_cons rfl rfl (RO_lnb rfl) ?_ | refine JS_cons rfl rfl (RO_lls rfl) ?_ | refine JS_cons rfl rfl (RO_add_in rfl rfl (by omega)) ?_ | refine JS_cons rfl rfl (RO_sub_in rfl rfl (by omega)) ?_ | refine JS_cons rfl rfl (RO_ixa rfl rfl (by omega)) ?_ | refine JS_cons rfl rfl (RO_fe rfl) ?_ | refine JS_cons rfl rfl (RO_lde rfl (by omega) rfl) ?_ | refine JS_cons rfl rfl (RO_slih rfl rfl (by omega)) ?_ | refine JS_cons rfl rfl (RO_slil rfl rfl (by omega)) ?_ | refine JS_offu rfl ?_ | refine JS_cons rfl rfl (RO_cc rfl rfl (by omega)) ?_ | refine JS_cons rfl rfl (RO_bld rfl (by (repeat (first | exact FillS.nil | (apply FillS.cons; rfl; rfl; constructor; rfl; (focus repeat constructor)))))) ?_ | refine JS_cons rfl rfl (RO_lae rfl (by omega) (by repeat constructor)) ?_ | refine JS_cons rfl rfl (RO_loadAgg rfl (by repeat constructor)) ?_)
    all_goals first
      | (have hi' : (i : Int) < pickI a.n 5 := (by assumption)
         exact ag (again (i + 1, (i : Int) + 1, v3, X ++ [⟨a.idx, pickI a.term 20, a.n, a.data⟩]) ⟨(by dsimp only; omega), (by dsimp only; omega), (by dsimp only; rw [hX, entOf_take, hent])⟩ (by dsimp only; omega)))
      | (have hil : i = (pickI a.n 5).toNat := (by omega)
         have hX2 : X = entriesOf a := (by rw [hX, hil]; rfl)
         subst hX2
         refine rt ?_
         exact ⟨_, rfl, _, by repeat constructor⟩)
  · rintro ⟨i, n, v, X⟩ ⟨hn, hi, hX⟩ again
    dsimp only at hn hi hX again ⊢
    subst hn
    have hXl : X.length ≤ 5 := by rw [hX, List.length_map, List.length_range]; omega
    have hent : entOf a i = ⟨1 + pickI a.idx 30 + i, pickI a.term 20, 2, a.data⟩ := if_neg hx
    repeat' (first | refine rem ?_ | (refine cle rfl (pick_tr a.n 5 ha.n (by decide)) ?_; rintro r Γ' ⟨rfl, rfl⟩; refine n0 ?_) | (refine cle rfl (pick_tr a.idx 30 ha.i (by decide)) ?_; rintro r Γ' ⟨rfl, rfl⟩; refine n0 ?_) | (refine cle rfl (pick_tr a.term 20 ha.t (by decide)) ?_; rintro r Γ' ⟨rfl, rfl⟩; refine n0 ?_) | (refine cle rfl (entry_tr (1 + pickI a.idx 30 + i) (pickI a.term 20) a.data) ?_; rintro r Γ' ⟨rfl, rfl⟩; refine n0 ?_) | refine bsl (e := entE) (X := [⟨1 + pickI a.idx 30 + i, pickI a.term 20, 2, a.data⟩]) (fun v2 => ?_) (.cona rfl rfl .nil) | refine apo rfl rfl (fun v3 => ?_) (by simp; omega) (by simp; omega) | refine mv ?_ | refine asn ?_ | refine jn ?_ | refine nl ?_ | refine ld rfl ?_ | refine nc ?_ | refine f0 ?_ | refine xt2 ?_ | refine sq ?_ | refine rg ?_ | refine lnb ?_ | refine lls rfl ?_ | refine ad ?_ | refine sb ?_ | refine lss ?_ | refine eql ?_ | refine neq ?_ | refine gtr ?_ | refine geq ?_ | refine leq ?_ | refine nt ?_ | refine pen ?_ | refine pnn ?_ | refine p1 ?_ | refine p0 ?_ | refine sk2 ?_ | refine kp ?_ | refine ct ?_ | refine cf ?_ | (refine cd (fun hc => ?_) (fun hc => ?_) <;> try (exfalso; omega)) | (refine cn (fun hc => ?_) (fun hc => ?_) <;> try (exfalso; omega)) | refine bl ?_ | refine ib ?_ | refine xt ?_ | refine bx (fun b_ => ?_) | refine al (fun b_ => ?_) | refine sr rfl ?_ | refine la rfl ?_ | refine ixa rfl rfl ?_ | refine fe ?_ | refine lde rfl ?_ | refine lae rfl ?_ | refine fa ?_ | refine bld ?_ | refine mf2 ?_ | refine seq ?_ | refine sne ?_ | refine cc ?_ | refine ixb ?_ | refine slb ?_ | refine slbl ?_ | refine slbh ?_ | refine cv ?_ | refine mx ?_ | refine mn ?_ | refine ml ?_ | refine af_ ?_ | (refine gd (fun hc => ?_) (fun hc => ?_) <;> try (exfalso; omega)) | (refine gn (fun hc => ?_) (fun hc => ?_) <;> try (exfalso; omega)) | refine aw ?_ | refine pes ?_ | refine pns ?_ | refine sw ?_ | refine ng ?_ | refine aeq ?_ | refine ane ?_ | refine sli rfl ?_ | refine slil rfl ?_ | refine slih rfl ?_ | refine cb (fun hc => ?_) (fun hc => ?_) | refine gs (fun hc => ?_) (fun hc => ?_) | refine J_draw4 (id := 5) [(0, true, []), (1, true, []), (4, true, []), (6, true, []), (7, true, []), (9, true, []), (10, true, []), (2, false, [4, 6, 7, 9, 10]), (3, true, []), (5, true, []), (8, false, [4, 9, 10, 3, 5]), (11, false, []), (12, false, [0, 1, 4, 6, 7, 9, 10, 3, 5]), (13, false, [])] [(0, true, []), (1, true, []), (4, true, []), (6, true, []), (7, true, []), (9, true, []), (10, true, []), (2, false, [4, 6, 7, 9, 10]), (3, true, []), (5, true, []), (8, false, [4, 9, 10, 3, 5]), (12, false, [0, 1, 4, 6, 7, 9, 10, 3, 5]), (11, false, []), (13, false, [])] [(0, true, []), (1, true, []), (4, true, []), (6, true, []), (7, true, []), (9, true, []), (10, true, []), (2, false, [4, 6, 7, 9, 10]), (3, true, []), (5, true, []), (12, false, [0, 1, 4, 6, 7, 9, 10, 3, 5]), (8, false, [4, 9, 10, 3, 5]), (11, false, []), (13, false, [])] [(0, true, []), (1, true, []), (4, true, []), (6, true, []), (7, true, []), (9, true, []), (10, true, []), (12, false, [0, 1, 4, 6, 7, 9, 10]), (2, false, [4, 6, 7, 9, 10]), (3, true, []), (5, true, []), (8, false, [4, 9, 10, 3, 5]), (11, false, []), (13, false, [])] (by kernel_rfl) ?_ ?_ ?_ ?_ | refine JS_cons rfl rfl (RO_move rfl) ?_ | refine JS_cons rfl rfl (RO_nilCheck rfl) ?_ | refine JS_cons rfl rfl (RO_fieldAddr0 rfl) ?_ | refine JS_cons rfl rfl (RO_load rfl (by rfl)) ?_ | refine JS_off rfl ?_ | refine JS_cons rfl rfl (RO_extract rfl rfl) ?_ | refine JS_cons rfl rfl (RO_not rfl) ?_ | refine JS_cons rfl rfl (RO_fieldAddr rfl) ?_ | refine JS_cons rfl rfl (RO_lnb rfl) ?_ | refine JS_cons rfl rfl (RO_lls rfl) ?_ | refine JS_cons rfl rfl (RO_add_in rfl rfl (by omega)) ?_ | refine JS_cons rfl rfl (RO_sub_in rfl rfl (by omega)) ?_ | refine JS_cons rfl rfl (RO_ixa rfl rfl (by omega)) ?_ | refine JS_cons rfl rfl (RO_fe rfl) ?_ | refine JS_cons rfl rfl (RO_lde rfl (by omega) rfl) ?_ | refine JS_cons rfl rfl (RO_slih rfl rfl (by omega)) ?_ | refine JS_cons rfl rfl (RO_slil rfl rfl (by omega)) ?_ | refine JS_offu rfl ?_ | refine JS_cons rfl rfl (RO_cc rfl rfl (by omega)) ?_ | refine JS_cons rfl rfl (RO_bld rfl (by (repeat (first | exact FillS.nil | (apply FillS.cons; rfl; rfl; constructor; rfl; (focus repeat constructor)))))) ?_ | refine JS_cons rfl rfl (RO_lae rfl (by omega) (by repeat constructor)) ?_ | refine JS_cons rfl rfl (RO_loadAgg rfl (by repeat constructor)) ?_)
    all_goals first
      | (have hi' : (i : Int) < pickI a.n 5 := (by assumption)
         exact ag (again (i + 1, (i : Int) + 1, v3, X ++ [⟨1 + pickI a.idx 30 + i, pickI a.term 20, 2, a.data⟩]) ⟨(by dsimp only; omega), (by dsimp only; omega), (by dsimp only; rw [hX, entOf_take, hent])⟩ (by dsimp only; omega)))
      | (have hil : i = (pickI a.n 5).toNat := (by omega)
         have hX2 : X = entriesOf a := (by rw [hX, hil]; rfl)
         subst hX2
         refine rt ?_
         exact ⟨_, rfl, _, by repeat constructor⟩)
end Go.Proofs.YtaeefjcbmkiiaaaGreatDoor
/- The law: an act that saves or resets; are there not too many acts. -/
namespace Go.Proofs.YtaeefjcbmkiiaaaGreatDoor
open Go Sl
attribute [local irreducible] J JR JS RO CR Arr Sat Tr sat blk
set_option linter.unusedVariables false
set_option maxHeartbeats 1000000
set_option maxRecDepth 4000
section
open Go.RowKit
variable {c : Ctx} {k : List Item} {st : St} {ops : Array Oper} {rs : List Oper} {l : List Stp}
theorem n5 {A B C D E : Assn} {R : List Assn} (h : JS c ops rs l k st (A :: B :: C :: D :: E :: R)) : JS c ops rs l k st ([A, B, C, D, E] ++ R) := h
theorem n6 {A B C D E F : Assn} {R : List Assn} (h : JS c ops rs l k st (A :: B :: C :: D :: E :: F :: R)) : JS c ops rs l k st ([A, B, C, D, E, F] ++ R) := h
end
/-- A world's own block. -/
abbrev wcell (d w : Nat) : Obj := .cells ⟨[.pointer (some ⟨d, 0, none⟩), .pointer (some ⟨w, 0, none⟩)]⟩ 38 (0, 0)
def actOf (W : LogS) (D : DiskS) (a : Act) : Int × LogS × DiskS := if pickI a.op 10 = 6 then W.reset D else W.save D (hardOf a) (entriesOf a)
theorem pickI_64 (c : Int) {n : Int} (h : 0 < n) (h2 : n ≤ 1000000) : I64 (pickI c n) := by
  have := pickI_lt c h
  unfold I64; omega
theorem hardOf_in {a : Act} (ha : a.In) : (hardOf a).In := by
  unfold hardOf; split
  · exact ⟨ha.t, ha.v⟩
  · exact ⟨pickI_64 _ (by decide) (by decide), pickI_64 _ (by decide) (by decide)⟩
theorem entriesOf_in {a : Act} (ha : a.In) : ∀ e ∈ entriesOf a, e.In ∧ goodI e.index ∧ e.data = a.data := by
  intro e he
  unfold entriesOf at he
  obtain ⟨i, hi, rfl⟩ := List.mem_map.1 he
  rw [List.mem_range] at hi
  have h5 := pickI_lt a.n (n := 5) (by decide)
  have h30 := pickI_lt a.idx (n := 30) (by decide)
  unfold entOf; split
  · rename_i h
    refine ⟨⟨ha.i, pickI_64 _ (by decide) (by decide), ha.n⟩, .inr ?_, rfl⟩
    have hd : (37 : Int) ∣ a.idx := Int.dvd_of_tmod_eq_zero h.1
    exact Int.emod_eq_zero_of_dvd hd
  · refine ⟨⟨?_, pickI_64 _ (by decide) (by decide), by show I64 2; decide⟩, .inl ?_, rfl⟩
    · show I64 (1 + pickI a.idx 30 + i); unfold I64; omega
    · show 1 + pickI a.idx 30 + i ≤ 33; omega
theorem entriesOf_len (a : Act) : (entriesOf a).length ≤ 5 := by
  have h5 := pickI_lt a.n (n := 5) (by decide)
  unfold entriesOf; rw [List.length_map, List.length_range]; omega
theorem actOf_live {W : LogS} {D : DiskS} {n : Nat} (hW : Live W D n) {a : Act} (ha : a.In) : Live (actOf W D a).2.1 (actOf W D a).2.2 (n + 5) ∧ (actOf W D a).2.2.most = D.most := by
  unfold actOf; split
  · have := reset_any hW
    exact ⟨{ this.1 with len := by have := this.1.len; omega }, this.2⟩
  · have := save_any hW (hardOf a) (hardOf_in ha) (entriesOf a) fun e he => ⟨(entriesOf_in ha e he).1, (entriesOf_in ha e he).2.1⟩
    have hl := entriesOf_len a
    exact ⟨{ this.1 with len := by have := this.1.len; omega }, this.2⟩
/-- What is asked of a log that is saved. -/
structure SegOk (W : LogS) : Prop where
  ne : W.segs ≠ []
  cnt : W.segs.length ≤ 1000
  n0 : 0 ≤ (lastS W.segs).number
  n1 : (lastS W.segs).number < 99
  z0 : 0 ≤ (lastS W.segs).size
  z1 : (lastS W.segs).size ≤ 100000000
theorem Live.seg {W : LogS} {D : DiskS} {n : Nat} (h : Live W D n) : SegOk W := by
  have h1 := h.sd.num_le _ (lastS_mem h.sd.ne)
  have h2 := h.sd.sizes _ (lastS_mem h.sd.ne)
  have h3 := h.sd.ok.m1
  have h4 := h.sd.cnt
  exact ⟨h.sd.ne, by omega, by omega, by omega, h2.1, by omega⟩
theorem act_tr (b w d m : Nat) (W : LogS) (ev sv : Value) (D : DiskS) (n : Nat) (hW : Live W D n) (hn : n ≤ 1000) (a : Act) (ha : a.In) (hd : a.data.length ≤ 700) (ho : pickI a.op 10 < 7) :
    Tr Tryz.prog 12 [.pointer (some ⟨b, 0, none⟩), actV a] [blk b (wcell d w), blk w (lcell d W.hard ev sv), sl 70 entE ev W.ents, sl 94 segE sv W.segs, blk d (dcell m D), mp fmap m D.files]
      fun v Γ => ∃ ev' sv', v = .int .i64 (actOf W D a).1 ∧ Γ = [blk b (wcell d w), blk w (lcell d (actOf W D a).2.1.hard ev' sv'), sl 70 entE ev' (actOf W D a).2.1.ents, sl 94 segE sv' (actOf W D a).2.1.segs, blk d (dcell m (actOf W D a).2.2), mp fmap m (actOf W D a).2.2.files] := by
  have hs := hW.seg
  have hl := entriesOf_len a
  have hle := hW.len
  have hli : ∀ e ∈ entriesOf a, e.In ∧ e.data.length ≤ 60000 := fun e he => by
    have := entriesOf_in ha e he
    exact ⟨this.1, by rw [this.2.2]; omega⟩
  refine Tr_of_J Tryz.func12 follows rfl Tryz.ntmps12 (by simp) fun B F => ?_
  repeat' (first | (refine cle rfl (pick_tr a.op 10 ha.o (by decide)) ?_; rintro r Γ' ⟨rfl, rfl⟩; refine n0 ?_) | (refine cle rfl (reset_tr w d m W ev sv D hW.sd.ok hW.hin hs.ne (by have := hs.cnt; omega) hs.n0 (by have := hs.n1; omega) hs.z0 hs.z1) ?_; rintro r Γ' ⟨ev2, rfl, rfl⟩; refine n5 ?_) | (refine cle rfl (hardOf_tr a ha) ?_; rintro r Γ' ⟨rfl, rfl⟩; refine n0 ?_) | (refine cle rfl (entriesOf_tr a ha (by omega)) ?_; rintro lv Γ' rfl; refine n1 ?_) | (refine cle rfl (save_tr w d m lv W ev sv D hW.sd.ok (hardOf a) (hardOf_in ha) (entriesOf a) (by omega) hli hs.ne hs.cnt hs.n0 hs.n1 hs.z0 hs.z1 hW.rise (by omega)) ?_; rintro r Γ' ⟨ev2, sv2, rfl, rfl⟩; refine n5 ?_) | refine mv ?_ | refine asn ?_ | refine jn ?_ | refine nl ?_ | refine ld rfl ?_ | refine nc ?_ | refine f0 ?_ | refine xt2 ?_ | refine sq ?_ | refine rg ?_ | refine lnb ?_ | refine lls rfl ?_ | refine ad ?_ | refine sb ?_ | refine lss ?_ | refine eql ?_ | refine neq ?_ | refine gtr ?_ | refine geq ?_ | refine leq ?_ | refine nt ?_ | refine pen ?_ | refine pnn ?_ | refine p1 ?_ | refine p0 ?_ | refine sk2 ?_ | refine kp ?_ | refine ct ?_ | refine cf ?_ | (refine cd (fun hc => ?_) (fun hc => ?_) <;> try (exfalso; omega)) | (refine cn (fun hc => ?_) (fun hc => ?_) <;> try (exfalso; omega)) | refine bl ?_ | refine ib ?_ | refine xt ?_ | refine bx (fun b_ => ?_) | refine al (fun b_ => ?_) | refine sr rfl ?_ | refine la rfl ?_ | refine ixa rfl rfl ?_ | refine fe ?_ | refine lde rfl ?_ | refine lae rfl ?_ | refine fa ?_ | refine bld ?_ | refine mf2 ?_ | refine seq ?_ | refine sne ?_ | refine cc ?_ | refine ixb ?_ | refine slb ?_ | refine slbl ?_ | refine slbh ?_ | refine cv ?_ | refine mx ?_ | refine mn ?_ | refine ml ?_ | refine af_ ?_ | (refine gd (fun hc => ?_) (fun hc => ?_) <;> try (exfalso; omega)) | (refine gn (fun hc => ?_) (fun hc => ?_) <;> try (exfalso; omega)) | refine aw ?_ | refine pes ?_ | refine pns ?_ | refine sw ?_ | refine ng ?_ | refine aeq ?_ | refine ane ?_ | refine sli rfl ?_ | refine slil rfl ?_ | refine slih rfl ?_ | refine cb (fun hc => ?_) (fun hc => ?_) | refine gs (fun hc => ?_) (fun hc => ?_) | refine J_draw (id := 5) [(0, true, []), (1, true, []), (2, true, []), (3, true, []), (4, true, []), (5, true, []), (6, false, []), (7, true, [])] (by kernel_rfl) ?_ | refine J_draw (id := 7) [(0, true, []), (1, true, []), (2, true, []), (3, true, []), (4, true, []), (5, true, []), (6, false, [0, 1, 2, 3]), (7, false, [])] (by kernel_rfl) ?_ | refine J_draw (id := 10) [(0, true, []), (1, true, []), (2, true, []), (3, true, []), (4, true, []), (5, true, []), (6, true, []), (7, true, []), (8, false, [])] (by kernel_rfl) ?_ | refine J_draw (id := 15) [(0, true, []), (1, true, []), (2, true, []), (3, true, []), (4, true, []), (6, true, []), (5, false, [0, 1, 2, 3, 6]), (7, false, [0, 1, 2, 3]), (8, false, []), (9, true, [])] (by kernel_rfl) ?_ | refine JS_cons rfl rfl (RO_move rfl) ?_ | refine JS_cons rfl rfl (RO_nilCheck rfl) ?_ | refine JS_cons rfl rfl (RO_fieldAddr0 rfl) ?_ | refine JS_cons rfl rfl (RO_load rfl (by rfl)) ?_ | refine JS_off rfl ?_ | refine JS_cons rfl rfl (RO_extract rfl rfl) ?_ | refine JS_cons rfl rfl (RO_not rfl) ?_ | refine JS_cons rfl rfl (RO_fieldAddr rfl) ?_ | refine JS_cons rfl rfl (RO_lnb rfl) ?_ | refine JS_cons rfl rfl (RO_lls rfl) ?_ | refine JS_cons rfl rfl (RO_add_in rfl rfl (by omega)) ?_ | refine JS_cons rfl rfl (RO_sub_in rfl rfl (by omega)) ?_ | refine JS_cons rfl rfl (RO_ixa rfl rfl (by omega)) ?_ | refine JS_cons rfl rfl (RO_fe rfl) ?_ | refine JS_cons rfl rfl (RO_lde rfl (by omega) rfl) ?_ | refine JS_cons rfl rfl (RO_slih rfl rfl (by omega)) ?_ | refine JS_cons rfl rfl (RO_slil rfl rfl (by omega)) ?_ | refine JS_offu rfl ?_ | refine JS_cons rfl rfl (RO_cc rfl rfl (by omega)) ?_ | refine JS_cons rfl rfl (RO_bld rfl (by (repeat (first | exact FillS.nil | (apply FillS.cons; rfl; rfl; constructor; rfl; (focus repeat constructor)))))) ?_ | refine JS_cons rfl rfl (RO_lae rfl (by omega) (by repeat constructor)) ?_ | refine JS_cons rfl rfl (RO_loadAgg rfl (by repeat constructor)) ?_)
  · rw [show actOf W D a = W.reset D from if_pos (by assumption)]
    refine rt ?_
    exact ⟨_, ⟨_, _, rfl, rfl⟩, _, by repeat constructor⟩
  · rw [show actOf W D a = W.save D (hardOf a) (entriesOf a) from if_neg (by assumption)]
    refine rt ?_
    exact ⟨_, ⟨_, _, rfl, rfl⟩, _, by repeat constructor⟩
end Go.Proofs.YtaeefjcbmkiiaaaGreatDoor
/- The law: are there not too many acts, and none too long. -/
namespace Go.Proofs.YtaeefjcbmkiiaaaGreatDoor
open Go Sl
attribute [local irreducible] J JR JS RO CR Arr Sat Tr sat blk
set_option linter.unusedVariables false
set_option maxHeartbeats 1000000
set_option maxRecDepth 4000
def isSmall (l : List Act) : Prop := l.length ≤ 40 ∧ ∀ a ∈ l, a.data.length ≤ 700
theorem actGetD {l : List Act} {i : Nat} (h : i < l.length) : l.getD i actE.dflt = l[i] := by rw [List.getD_eq_getElem?_getD, List.getElem?_eq_getElem h]; rfl
theorem small_tr (lv : Value) (l : List Act) (hl : l.length ≤ 9223372036854775807) : Tr Tryz.prog 9 [lv] [rsl actE lv l]
    fun v Γ => (∃ b : Bool, v = .bool b ∧ (b = true → isSmall l)) ∧ Γ = [rsl actE lv l] := by
  refine Tr_of_J Tryz.func9 follows rfl Tryz.ntmps9 (by simp) fun B F => ?_
  repeat' (first | refine mv ?_ | refine asn ?_ | refine jn ?_ | refine nl ?_ | refine ld rfl ?_ | refine nc ?_ | refine f0 ?_ | refine xt2 ?_ | refine sq ?_ | refine rg ?_ | refine lnb ?_ | refine lls rfl ?_ | refine ad ?_ | refine sb ?_ | refine lss ?_ | refine eql ?_ | refine neq ?_ | refine gtr ?_ | refine geq ?_ | refine leq ?_ | refine nt ?_ | refine pen ?_ | refine pnn ?_ | refine p1 ?_ | refine p0 ?_ | refine sk2 ?_ | refine kp ?_ | refine ct ?_ | refine cf ?_ | (refine cd (fun hc => ?_) (fun hc => ?_) <;> try (exfalso; omega)) | (refine cn (fun hc => ?_) (fun hc => ?_) <;> try (exfalso; omega)) | refine bl ?_ | refine ib ?_ | refine xt ?_ | refine bx (fun b_ => ?_) | refine al (fun b_ => ?_) | refine sr rfl ?_ | refine la rfl ?_ | refine ixa rfl rfl ?_ | refine fe ?_ | refine lde rfl ?_ | refine lae rfl ?_ | refine fa ?_ | refine bld ?_ | refine mf2 ?_ | refine seq ?_ | refine sne ?_ | refine cc ?_ | refine ixb ?_ | refine slb ?_ | refine slbl ?_ | refine slbh ?_ | refine cv ?_ | refine mx ?_ | refine mn ?_ | refine ml ?_ | refine af_ ?_ | (refine gd (fun hc => ?_) (fun hc => ?_) <;> try (exfalso; omega)) | (refine gn (fun hc => ?_) (fun hc => ?_) <;> try (exfalso; omega)) | refine aw ?_ | refine pes ?_ | refine pns ?_ | refine sw ?_ | refine ng ?_ | refine aeq ?_ | refine ane ?_ | refine sli rfl ?_ | refine slil rfl ?_ | refine slih rfl ?_ | refine cb (fun hc => ?_) (fun hc => ?_) | refine gs (fun hc => ?_) (fun hc => ?_))
  · refine rt ?_
    exact ⟨_, ⟨⟨false, rfl, fun h => by cases h⟩, rfl⟩, _, by repeat constructor⟩
  have h40 : l.length ≤ 40 := by omega
  refine lp (α := Nat × Int) (fun y => [(0, lv), (3, .int .i64 y.2)]) (fun y => [rsl actE lv l]) (fun y => y.2 = (y.1 : Int) ∧ y.1 ≤ l.length ∧ ∀ a ∈ l.take y.1, a.data.length ≤ 700) (fun y => l.length - y.1) (0, 0) ?_ ⟨rfl, Nat.zero_le _, fun a ha => by simp at ha⟩
  rintro ⟨i, n⟩ ⟨hn, hi, hr⟩ again
  dsimp only at hn hi hr again ⊢
  subst hn
  repeat' (first | refine ll ?_ | refine mv ?_ | refine asn ?_ | refine jn ?_ | refine nl ?_ | refine ld rfl ?_ | refine nc ?_ | refine f0 ?_ | refine xt2 ?_ | refine sq ?_ | refine rg ?_ | refine lnb ?_ | refine lls rfl ?_ | refine ad ?_ | refine sb ?_ | refine lss ?_ | refine eql ?_ | refine neq ?_ | refine gtr ?_ | refine geq ?_ | refine leq ?_ | refine nt ?_ | refine pen ?_ | refine pnn ?_ | refine p1 ?_ | refine p0 ?_ | refine sk2 ?_ | refine kp ?_ | refine ct ?_ | refine cf ?_ | (refine cd (fun hc => ?_) (fun hc => ?_) <;> try (exfalso; omega)) | (refine cn (fun hc => ?_) (fun hc => ?_) <;> try (exfalso; omega)) | refine bl ?_ | refine ib ?_ | refine xt ?_ | refine bx (fun b_ => ?_) | refine al (fun b_ => ?_) | refine sr rfl ?_ | refine la rfl ?_ | refine ixa rfl rfl ?_ | refine fe ?_ | refine lde rfl ?_ | refine lae rfl ?_ | refine fa ?_ | refine bld ?_ | refine mf2 ?_ | refine seq ?_ | refine sne ?_ | refine cc ?_ | refine ixb ?_ | refine slb ?_ | refine slbl ?_ | refine slbh ?_ | refine cv ?_ | refine mx ?_ | refine mn ?_ | refine ml ?_ | refine af_ ?_ | (refine gd (fun hc => ?_) (fun hc => ?_) <;> try (exfalso; omega)) | (refine gn (fun hc => ?_) (fun hc => ?_) <;> try (exfalso; omega)) | refine aw ?_ | refine pes ?_ | refine pns ?_ | refine sw ?_ | refine ng ?_ | refine aeq ?_ | refine ane ?_ | refine sli rfl ?_ | refine slil rfl ?_ | refine slih rfl ?_ | refine cb (fun hc => ?_) (fun hc => ?_) | refine gs (fun hc => ?_) (fun hc => ?_))
  all_goals first
    | (refine rt ?_
       exact ⟨_, ⟨⟨false, rfl, fun h => by cases h⟩, rfl⟩, _, by repeat constructor⟩)
    | skip
  · have hi' : i < l.length := by omega
    have hda : (l.getD i actE.dflt).data.length ≤ 700 := by
      have h1 : ¬ (700 : Int) < ((l.getD (i : Int).toNat actE.dflt).data.length : Int) := by assumption
      have h2 : (l.getD (i : Int).toNat actE.dflt) = l.getD i actE.dflt := rfl
      rw [h2] at h1; omega
    exact ag (again (i + 1, (i : Int) + 1) ⟨by dsimp only; omega, hi', by
      intro a ha
      dsimp only at ha
      rw [List.take_succ_eq_append_getElem hi'] at ha
      rcases List.mem_append.1 ha with ha | ha
      · exact hr a ha
      · rw [List.mem_singleton.1 ha, ← actGetD hi']; exact hda⟩ (by dsimp only; omega))
  · have hil : i = l.length := by omega
    rw [hil, List.take_length] at hr
    refine rt ?_
    exact ⟨_, ⟨⟨true, rfl, fun _ => ⟨h40, hr⟩⟩, rfl⟩, _, by repeat constructor⟩
end Go.Proofs.YtaeefjcbmkiiaaaGreatDoor
