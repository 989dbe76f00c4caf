/- The log: its segments' names; is one wrong among entries; is a name among some; the segments that are there. -/
import Derived.Test.YtaeefjcbmkiiaaaGreatDoorW3
import Derived.Test.YtaeefjcbmkiiaaaGreatDoorSlD
import Derived.Test.YtaeefjcbmkiiaaaGreatDoorM4
namespace Go.Proofs.YtaeefjcbmkiiaaaGreatDoor
open Go Sl
attribute [local irreducible] J JR JS RO CR Arr Sat Tr sat blk
set_option linter.unusedVariables false
set_option maxHeartbeats 400000
set_option maxRecDepth 4000
theorem segGetD_mem {S : List Seg} {i : Nat} (h : i < S.length) : S.getD i .none ∈ S := by
  rw [List.getD_eq_getElem?_getD, List.getElem?_eq_getElem h]; exact List.getElem_mem h
theorem segments_tr (w d : Nat) (h : Hrd) (ev sv : Value) (S : List Seg) (hS : ∀ s ∈ S, 0 ≤ s.number ∧ s.number < 100) (hl : S.length ≤ 1000) : Tr Tryz.prog 16 [.pointer (some ⟨w, 0, none⟩)] [blk w (lcell d h ev sv), sl 94 segE sv S]
    fun v Γ => Γ = [sl 9 strE v (S.map segFile), blk w (lcell d h ev sv), sl 94 segE sv S] := by
  refine Tr_of_J Tryz.func16 follows rfl Tryz.ntmps16 (by simp) fun B F => ?_
  repeat' (first | refine mv ?_ | refine asn ?_ | refine jn ?_ | refine nl ?_ | refine ld rfl ?_ | refine nc ?_ | refine f0 ?_ | refine xt2 ?_ | refine sq ?_ | refine rg ?_ | refine lnb ?_ | refine lls rfl ?_ | refine ad ?_ | refine sb ?_ | refine lss ?_ | refine eql ?_ | refine neq ?_ | refine gtr ?_ | refine geq ?_ | refine leq ?_ | refine nt ?_ | refine pen ?_ | refine pnn ?_ | refine p1 ?_ | refine p0 ?_ | refine sk2 ?_ | refine kp ?_ | refine ct ?_ | refine cf ?_ | (refine cd (fun hc => ?_) (fun hc => ?_) <;> try (exfalso; omega)) | (refine cn (fun hc => ?_) (fun hc => ?_) <;> try (exfalso; omega)) | refine bl ?_ | refine ib ?_ | refine xt ?_ | refine bx (fun b_ => ?_) | refine al (fun b_ => ?_) | refine sr rfl ?_ | refine la rfl ?_ | refine ixa rfl rfl ?_ | refine fe ?_ | refine lde rfl ?_ | refine lae rfl ?_ | refine fa ?_ | refine bld ?_ | refine mf2 ?_ | refine seq ?_ | refine sne ?_ | refine cc ?_ | refine ixb ?_ | refine slb ?_ | refine slbl ?_ | refine slbh ?_ | refine cv ?_ | refine mx ?_ | refine mn ?_ | refine ml ?_ | refine af_ ?_ | (refine gd (fun hc => ?_) (fun hc => ?_) <;> try (exfalso; omega)) | (refine gn (fun hc => ?_) (fun hc => ?_) <;> try (exfalso; omega)) | refine aw ?_ | refine pes ?_ | refine pns ?_ | refine sw ?_ | refine ng ?_ | refine aeq ?_ | refine ane ?_ | refine sli rfl ?_ | refine slil rfl ?_ | refine slih rfl ?_ | refine cb (fun hc => ?_) (fun hc => ?_) | refine gs (fun hc => ?_) (fun hc => ?_))
  refine J_sat (Γ' := sl 9 strE (.slice none 0 0) [] :: _) ?_ fun w hS => sl_nil hS
  refine lp (α := Nat × Int × Value × List Nm) (fun y => [(3, y.2.2.1), (9, sv), (10, .int .i64 S.length), (11, .int .i64 y.2.1)]) (fun y => [sl 9 strE y.2.2.1 y.2.2.2, blk w (lcell d h ev sv), sl 94 segE sv S]) (fun y => y.2.1 = (y.1 : Int) ∧ y.1 ≤ S.length ∧ y.2.2.2 = (S.take y.1).map segFile) (fun y => S.length - y.1) (0, 0, .slice none 0 0, []) ?_ ⟨rfl, Nat.zero_le _, rfl⟩
  rintro ⟨i, n, v, X⟩ ⟨hn, hi, hX⟩ again
  dsimp only at hn hi hX again ⊢
  subst hn
  have hXl : X.length ≤ 1000 := by rw [hX, List.length_map, List.length_take]; omega
  repeat' (first | (refine cl (segName_tr (S.getD i .none) (hS _ (segGetD_mem (by omega))).1 (hS _ (segGetD_mem (by omega))).2) ?_; rintro r Γ' ⟨rfl, rfl⟩; refine n0 ?_) | refine bsl (e := strE) (X := [segFile (S.getD i .none)]) (fun v2 => ?_) (.cona rfl rfl .nil) | refine apo rfl rfl (fun v3 => ?_) (by simp; omega) (by simp; omega) | refine mv ?_ | refine asn ?_ | refine jn ?_ | refine nl ?_ | refine ld rfl ?_ | refine nc ?_ | refine f0 ?_ | refine xt2 ?_ | refine sq ?_ | refine rg ?_ | refine lnb ?_ | refine lls rfl ?_ | refine ad ?_ | refine sb ?_ | refine lss ?_ | refine eql ?_ | refine neq ?_ | refine gtr ?_ | refine geq ?_ | refine leq ?_ | refine nt ?_ | refine pen ?_ | refine pnn ?_ | refine p1 ?_ | refine p0 ?_ | refine sk2 ?_ | refine kp ?_ | refine ct ?_ | refine cf ?_ | (refine cd (fun hc => ?_) (fun hc => ?_) <;> try (exfalso; omega)) | (refine cn (fun hc => ?_) (fun hc => ?_) <;> try (exfalso; omega)) | refine bl ?_ | refine ib ?_ | refine xt ?_ | refine bx (fun b_ => ?_) | refine al (fun b_ => ?_) | refine sr rfl ?_ | refine la rfl ?_ | refine ixa rfl rfl ?_ | refine fe ?_ | refine lde rfl ?_ | refine lae rfl ?_ | refine fa ?_ | refine bld ?_ | refine mf2 ?_ | refine seq ?_ | refine sne ?_ | refine cc ?_ | refine ixb ?_ | refine slb ?_ | refine slbl ?_ | refine slbh ?_ | refine cv ?_ | refine mx ?_ | refine mn ?_ | refine ml ?_ | refine af_ ?_ | (refine gd (fun hc => ?_) (fun hc => ?_) <;> try (exfalso; omega)) | (refine gn (fun hc => ?_) (fun hc => ?_) <;> try (exfalso; omega)) | refine aw ?_ | refine pes ?_ | refine pns ?_ | refine sw ?_ | refine ng ?_ | refine aeq ?_ | refine ane ?_ | refine sli rfl ?_ | refine slil rfl ?_ | refine slih rfl ?_ | refine cb (fun hc => ?_) (fun hc => ?_) | refine gs (fun hc => ?_) (fun hc => ?_))
  · have hi' : i < S.length := by omega
    exact ag (again (i + 1, (i : Int) + 1, v3, X ++ [segFile (S.getD i .none)]) ⟨by dsimp only; omega, hi', by dsimp only; rw [hX, List.take_succ_eq_append_getElem hi', List.map_append, List.getD_eq_getElem?_getD, List.getElem?_eq_getElem hi']; rfl⟩ (by dsimp only; omega))
  · have hil : i = S.length := by omega
    rw [hil, List.take_length] at hX
    subst hX
    refine rt ?_
    exact ⟨_, rfl, _, by repeat constructor⟩
theorem wrong_tr (e : Ent) : Tr Tryz.prog 56 [entV e] [] fun v Γ => v = .bool (!e.right) ∧ Γ = [] := by
  refine Tr_of_J Tryz.func56 follows rfl Tryz.ntmps56 (by simp) fun B F => ?_
  repeat' (first | (refine cl (right_tr e) ?_; rintro r Γ' ⟨rfl, rfl⟩; refine n0 ?_) | refine mv ?_ | refine asn ?_ | refine jn ?_ | refine nl ?_ | refine ld rfl ?_ | refine nc ?_ | refine f0 ?_ | refine xt2 ?_ | refine sq ?_ | refine rg ?_ | refine lnb ?_ | refine lls rfl ?_ | refine ad ?_ | refine sb ?_ | refine lss ?_ | refine eql ?_ | refine neq ?_ | refine gtr ?_ | refine geq ?_ | refine leq ?_ | refine nt ?_ | refine pen ?_ | refine pnn ?_ | refine p1 ?_ | refine p0 ?_ | refine sk2 ?_ | refine kp ?_ | refine ct ?_ | refine cf ?_ | (refine cd (fun hc => ?_) (fun hc => ?_) <;> try (exfalso; omega)) | (refine cn (fun hc => ?_) (fun hc => ?_) <;> try (exfalso; omega)) | refine bl ?_ | refine ib ?_ | refine xt ?_ | refine bx (fun b_ => ?_) | refine al (fun b_ => ?_) | refine sr rfl ?_ | refine la rfl ?_ | refine ixa rfl rfl ?_ | refine fe ?_ | refine lde rfl ?_ | refine lae rfl ?_ | refine fa ?_ | refine bld ?_ | refine mf2 ?_ | refine seq ?_ | refine sne ?_ | refine cc ?_ | refine ixb ?_ | refine slb ?_ | refine slbl ?_ | refine slbh ?_ | refine cv ?_ | refine mx ?_ | refine mn ?_ | refine ml ?_ | refine af_ ?_ | (refine gd (fun hc => ?_) (fun hc => ?_) <;> try (exfalso; omega)) | (refine gn (fun hc => ?_) (fun hc => ?_) <;> try (exfalso; omega)) | refine aw ?_ | refine pes ?_ | refine pns ?_ | refine sw ?_ | refine ng ?_ | refine aeq ?_ | refine ane ?_ | refine sli rfl ?_ | refine slil rfl ?_ | refine slih rfl ?_ | refine cb (fun hc => ?_) (fun hc => ?_) | refine gs (fun hc => ?_) (fun hc => ?_))
  refine rt ?_
  exact ⟨_, ⟨rfl, rfl⟩, _, by repeat constructor⟩
theorem indexFunc_tr (lv : Value) (L : List Ent) (hl : L.length ≤ 1000000) : Tr Tryz.prog 97 [lv, .func (.func 56) #[] #[]] [sl 70 entE lv L]
    fun v Γ => (∃ n : Int, v = .int .i64 n ∧ (0 ≤ n ↔ (L.any fun e => !e.right) = true)) ∧ Γ = [sl 70 entE lv L] := by
  refine Tr_of_J Tryz.func97 follows rfl Tryz.ntmps97 (by simp) fun B F => ?_
  repeat' (first | refine mv ?_ | refine asn ?_ | refine jn ?_ | refine nl ?_ | refine ld rfl ?_ | refine nc ?_ | refine f0 ?_ | refine xt2 ?_ | refine sq ?_ | refine rg ?_ | refine lnb ?_ | refine lls rfl ?_ | refine ad ?_ | refine sb ?_ | refine lss ?_ | refine eql ?_ | refine neq ?_ | refine gtr ?_ | refine geq ?_ | refine leq ?_ | refine nt ?_ | refine pen ?_ | refine pnn ?_ | refine p1 ?_ | refine p0 ?_ | refine sk2 ?_ | refine kp ?_ | refine ct ?_ | refine cf ?_ | (refine cd (fun hc => ?_) (fun hc => ?_) <;> try (exfalso; omega)) | (refine cn (fun hc => ?_) (fun hc => ?_) <;> try (exfalso; omega)) | refine bl ?_ | refine ib ?_ | refine xt ?_ | refine bx (fun b_ => ?_) | refine al (fun b_ => ?_) | refine sr rfl ?_ | refine la rfl ?_ | refine ixa rfl rfl ?_ | refine fe ?_ | refine lde rfl ?_ | refine lae rfl ?_ | refine fa ?_ | refine bld ?_ | refine mf2 ?_ | refine seq ?_ | refine sne ?_ | refine cc ?_ | refine ixb ?_ | refine slb ?_ | refine slbl ?_ | refine slbh ?_ | refine cv ?_ | refine mx ?_ | refine mn ?_ | refine ml ?_ | refine af_ ?_ | (refine gd (fun hc => ?_) (fun hc => ?_) <;> try (exfalso; omega)) | (refine gn (fun hc => ?_) (fun hc => ?_) <;> try (exfalso; omega)) | refine aw ?_ | refine pes ?_ | refine pns ?_ | refine sw ?_ | refine ng ?_ | refine aeq ?_ | refine ane ?_ | refine sli rfl ?_ | refine slil rfl ?_ | refine slih rfl ?_ | refine cb (fun hc => ?_) (fun hc => ?_) | refine gs (fun hc => ?_) (fun hc => ?_))
  refine lp (α := Nat × Int) (fun y => [(0, lv), (1, .func (.func 56) #[] #[]), (7, .int .i64 L.length), (8, .int .i64 y.2)]) (fun y => [sl 70 entE lv L]) (fun y => y.2 = (y.1 : Int) ∧ y.1 ≤ L.length ∧ ∀ e ∈ L.take y.1, e.right = true) (fun y => L.length - y.1) (0, 0) ?_ ⟨rfl, Nat.zero_le _, fun e he => by simp at he⟩
  rintro ⟨i, n⟩ ⟨hn, hi, hr⟩ again
  dsimp only at hn hi hr again ⊢
  subst hn
  repeat' (first | (refine cl3 rfl (wrong_tr (L.getD i .none)) ?_; rintro r Γ' ⟨rfl, rfl⟩; refine n0 ?_) | refine mv ?_ | refine asn ?_ | refine jn ?_ | refine nl ?_ | refine ld rfl ?_ | refine nc ?_ | refine f0 ?_ | refine xt2 ?_ | refine sq ?_ | refine rg ?_ | refine lnb ?_ | refine lls rfl ?_ | refine ad ?_ | refine sb ?_ | refine lss ?_ | refine eql ?_ | refine neq ?_ | refine gtr ?_ | refine geq ?_ | refine leq ?_ | refine nt ?_ | refine pen ?_ | refine pnn ?_ | refine p1 ?_ | refine p0 ?_ | refine sk2 ?_ | refine kp ?_ | refine ct ?_ | refine cf ?_ | (refine cd (fun hc => ?_) (fun hc => ?_) <;> try (exfalso; omega)) | (refine cn (fun hc => ?_) (fun hc => ?_) <;> try (exfalso; omega)) | refine bl ?_ | refine ib ?_ | refine xt ?_ | refine bx (fun b_ => ?_) | refine al (fun b_ => ?_) | refine sr rfl ?_ | refine la rfl ?_ | refine ixa rfl rfl ?_ | refine fe ?_ | refine lde rfl ?_ | refine lae rfl ?_ | refine fa ?_ | refine bld ?_ | refine mf2 ?_ | refine seq ?_ | refine sne ?_ | refine cc ?_ | refine ixb ?_ | refine slb ?_ | refine slbl ?_ | refine slbh ?_ | refine cv ?_ | refine mx ?_ | refine mn ?_ | refine ml ?_ | refine af_ ?_ | (refine gd (fun hc => ?_) (fun hc => ?_) <;> try (exfalso; omega)) | (refine gn (fun hc => ?_) (fun hc => ?_) <;> try (exfalso; omega)) | refine aw ?_ | refine pes ?_ | refine pns ?_ | refine sw ?_ | refine ng ?_ | refine aeq ?_ | refine ane ?_ | refine sli rfl ?_ | refine slil rfl ?_ | refine slih rfl ?_ | refine cb (fun hc => ?_) (fun hc => ?_) | refine gs (fun hc => ?_) (fun hc => ?_))
  · have hi' : i < L.length := by omega
    refine rt ?_
    refine ⟨_, ⟨⟨i, rfl, ?_⟩, rfl⟩, _, by repeat constructor⟩
    constructor
    · intro _
      rw [List.any_eq_true]
      exact ⟨L.getD i .none, by rw [getD_of hi']; exact List.getElem_mem hi', by assumption⟩
    · intro _; omega
  · have hi' : i < L.length := by omega
    have hg : (L.getD i .none).right = true := by cases hh : (L.getD i .none).right <;> simp_all
    exact ag (again (i + 1, (i : Int) + 1) ⟨by dsimp only; omega, hi', by
      intro e he
      dsimp only at he
      rw [List.take_succ_eq_append_getElem hi'] at he
      rcases List.mem_append.1 he with he | he
      · exact hr e he
      · rw [List.mem_singleton.1 he, ← getD_of hi']; exact hg⟩ (by dsimp only; omega))
  · have hil : i = L.length := by omega
    rw [hil, List.take_length] at hr
    refine rt ?_
    refine ⟨_, ⟨⟨-1, rfl, ?_⟩, rfl⟩, _, by repeat constructor⟩
    constructor
    · intro h; omega
    · intro h
      rw [List.any_eq_true] at h
      obtain ⟨e, he, h⟩ := h
      rw [hr e he] at h; cases h
theorem containsFunc_tr (lv : Value) (L : List Ent) (hl : L.length ≤ 1000000) : Tr Tryz.prog 55 [lv, .func (.func 56) #[] #[]] [sl 70 entE lv L]
    fun v Γ => v = .bool (L.any fun e => !e.right) ∧ Γ = [sl 70 entE lv L] := by
  refine Tr_of_J Tryz.func55 follows rfl Tryz.ntmps55 (by simp) fun B F => ?_
  repeat' (first | (refine cl (indexFunc_tr lv L hl) ?_; rintro r Γ' ⟨⟨n, rfl, hn⟩, rfl⟩; refine n1 ?_) | refine mv ?_ | refine asn ?_ | refine jn ?_ | refine nl ?_ | refine ld rfl ?_ | refine nc ?_ | refine f0 ?_ | refine xt2 ?_ | refine sq ?_ | refine rg ?_ | refine lnb ?_ | refine lls rfl ?_ | refine ad ?_ | refine sb ?_ | refine lss ?_ | refine eql ?_ | refine neq ?_ | refine gtr ?_ | refine geq ?_ | refine leq ?_ | refine nt ?_ | refine pen ?_ | refine pnn ?_ | refine p1 ?_ | refine p0 ?_ | refine sk2 ?_ | refine kp ?_ | refine ct ?_ | refine cf ?_ | (refine cd (fun hc => ?_) (fun hc => ?_) <;> try (exfalso; omega)) | (refine cn (fun hc => ?_) (fun hc => ?_) <;> try (exfalso; omega)) | refine bl ?_ | refine ib ?_ | refine xt ?_ | refine bx (fun b_ => ?_) | refine al (fun b_ => ?_) | refine sr rfl ?_ | refine la rfl ?_ | refine ixa rfl rfl ?_ | refine fe ?_ | refine lde rfl ?_ | refine lae rfl ?_ | refine fa ?_ | refine bld ?_ | refine mf2 ?_ | refine seq ?_ | refine sne ?_ | refine cc ?_ | refine ixb ?_ | refine slb ?_ | refine slbl ?_ | refine slbh ?_ | refine cv ?_ | refine mx ?_ | refine mn ?_ | refine ml ?_ | refine af_ ?_ | (refine gd (fun hc => ?_) (fun hc => ?_) <;> try (exfalso; omega)) | (refine gn (fun hc => ?_) (fun hc => ?_) <;> try (exfalso; omega)) | refine aw ?_ | refine pes ?_ | refine pns ?_ | refine sw ?_ | refine ng ?_ | refine aeq ?_ | refine ane ?_ | refine sli rfl ?_ | refine slil rfl ?_ | refine slih rfl ?_ | refine cb (fun hc => ?_) (fun hc => ?_) | refine gs (fun hc => ?_) (fun hc => ?_))
  refine rt ?_
  refine ⟨_, ⟨?_, rfl⟩, _, by repeat constructor⟩
  show Value.bool _ = _
  congr 1
  rw [Bool.eq_iff_iff, decide_eq_true_iff]; exact hn
theorem index_tr (lv : Value) (L : List Nm) (x : Nm) (hl : L.length ≤ 1000000) : Tr Tryz.prog 150 [lv, vs x] [sl 9 strE lv L]
    fun v Γ => (∃ n : Int, v = .int .i64 n ∧ (0 ≤ n ↔ x ∈ L)) ∧ Γ = [sl 9 strE lv L] := by
  refine Tr_of_J Tryz.func150 follows rfl Tryz.ntmps150 (by simp) fun B F => ?_
  repeat' (first | refine mv ?_ | refine asn ?_ | refine jn ?_ | refine nl ?_ | refine ld rfl ?_ | refine nc ?_ | refine f0 ?_ | refine xt2 ?_ | refine sq ?_ | refine rg ?_ | refine lnb ?_ | refine lls rfl ?_ | refine ad ?_ | refine sb ?_ | refine lss ?_ | refine eql ?_ | refine neq ?_ | refine gtr ?_ | refine geq ?_ | refine leq ?_ | refine nt ?_ | refine pen ?_ | refine pnn ?_ | refine p1 ?_ | refine p0 ?_ | refine sk2 ?_ | refine kp ?_ | refine ct ?_ | refine cf ?_ | (refine cd (fun hc => ?_) (fun hc => ?_) <;> try (exfalso; omega)) | (refine cn (fun hc => ?_) (fun hc => ?_) <;> try (exfalso; omega)) | refine bl ?_ | refine ib ?_ | refine xt ?_ | refine bx (fun b_ => ?_) | refine al (fun b_ => ?_) | refine sr rfl ?_ | refine la rfl ?_ | refine ixa rfl rfl ?_ | refine fe ?_ | refine lde rfl ?_ | refine lae rfl ?_ | refine fa ?_ | refine bld ?_ | refine mf2 ?_ | refine seq ?_ | refine sne ?_ | refine cc ?_ | refine ixb ?_ | refine slb ?_ | refine slbl ?_ | refine slbh ?_ | refine cv ?_ | refine mx ?_ | refine mn ?_ | refine ml ?_ | refine af_ ?_ | (refine gd (fun hc => ?_) (fun hc => ?_) <;> try (exfalso; omega)) | (refine gn (fun hc => ?_) (fun hc => ?_) <;> try (exfalso; omega)) | refine aw ?_ | refine pes ?_ | refine pns ?_ | refine sw ?_ | refine ng ?_ | refine aeq ?_ | refine ane ?_ | refine sli rfl ?_ | refine slil rfl ?_ | refine slih rfl ?_ | refine cb (fun hc => ?_) (fun hc => ?_) | refine gs (fun hc => ?_) (fun hc => ?_))
  refine lp (α := Nat × Int) (fun y => [(0, lv), (1, vs x), (7, .int .i64 L.length), (8, .int .i64 y.2)]) (fun y => [sl 9 strE lv L]) (fun y => y.2 = (y.1 : Int) ∧ y.1 ≤ L.length ∧ x ∉ L.take y.1) (fun y => L.length - y.1) (0, 0) ?_ ⟨rfl, Nat.zero_le _, by simp⟩
  rintro ⟨i, n⟩ ⟨hn, hi, hr⟩ again
  dsimp only at hn hi hr again ⊢
  subst hn
  repeat' (first | refine mv ?_ | refine asn ?_ | refine jn ?_ | refine nl ?_ | refine ld rfl ?_ | refine nc ?_ | refine f0 ?_ | refine xt2 ?_ | refine sq ?_ | refine rg ?_ | refine lnb ?_ | refine lls rfl ?_ | refine ad ?_ | refine sb ?_ | refine lss ?_ | refine eql ?_ | refine neq ?_ | refine gtr ?_ | refine geq ?_ | refine leq ?_ | refine nt ?_ | refine pen ?_ | refine pnn ?_ | refine p1 ?_ | refine p0 ?_ | refine sk2 ?_ | refine kp ?_ | refine ct ?_ | refine cf ?_ | (refine cd (fun hc => ?_) (fun hc => ?_) <;> try (exfalso; omega)) | (refine cn (fun hc => ?_) (fun hc => ?_) <;> try (exfalso; omega)) | refine bl ?_ | refine ib ?_ | refine xt ?_ | refine bx (fun b_ => ?_) | refine al (fun b_ => ?_) | refine sr rfl ?_ | refine la rfl ?_ | refine ixa rfl rfl ?_ | refine fe ?_ | refine lde rfl ?_ | refine lae rfl ?_ | refine fa ?_ | refine bld ?_ | refine mf2 ?_ | refine seq ?_ | refine sne ?_ | refine cc ?_ | refine ixb ?_ | refine slb ?_ | refine slbl ?_ | refine slbh ?_ | refine cv ?_ | refine mx ?_ | refine mn ?_ | refine ml ?_ | refine af_ ?_ | (refine gd (fun hc => ?_) (fun hc => ?_) <;> try (exfalso; omega)) | (refine gn (fun hc => ?_) (fun hc => ?_) <;> try (exfalso; omega)) | refine aw ?_ | refine pes ?_ | refine pns ?_ | refine sw ?_ | refine ng ?_ | refine aeq ?_ | refine ane ?_ | refine sli rfl ?_ | refine slil rfl ?_ | refine slih rfl ?_ | refine cb (fun hc => ?_) (fun hc => ?_) | refine gs (fun hc => ?_) (fun hc => ?_))
  · have hi' : i < L.length := by omega
    have hx : x = L.getD i [] := by assumption
    refine rt ?_
    refine ⟨_, ⟨⟨i, rfl, ?_⟩, rfl⟩, _, by repeat constructor⟩
    constructor
    · intro _; rw [hx, List.getD_eq_getElem?_getD, List.getElem?_eq_getElem hi']; exact List.getElem_mem hi'
    · intro _; omega
  · have hi' : i < L.length := by omega
    have hx : ¬ x = L.getD i [] := by assumption
    exact ag (again (i + 1, (i : Int) + 1) ⟨by dsimp only; omega, hi', by
      intro he
      dsimp only at he
      rw [List.take_succ_eq_append_getElem hi'] at he
      rcases List.mem_append.1 he with he | he
      · exact hr he
      · apply hx; rw [List.getD_eq_getElem?_getD, List.getElem?_eq_getElem hi']; exact List.mem_singleton.1 he⟩ (by dsimp only; omega))
  · have hil : i = L.length := by omega
    rw [hil, List.take_length] at hr
    refine rt ?_
    refine ⟨_, ⟨⟨-1, rfl, ?_⟩, rfl⟩, _, by repeat constructor⟩
    constructor
    · intro h; omega
    · intro h; exact absurd h hr
theorem contains_tr (lv : Value) (L : List Nm) (x : Nm) (hl : L.length ≤ 1000000) : Tr Tryz.prog 99 [lv, vs x] [sl 9 strE lv L]
    fun v Γ => v = .bool (decide (x ∈ L)) ∧ Γ = [sl 9 strE lv L] := by
  refine Tr_of_J Tryz.func99 follows rfl Tryz.ntmps99 (by simp) fun B F => ?_
  repeat' (first | (refine cl (index_tr lv L x hl) ?_; rintro r Γ' ⟨⟨n, rfl, hn⟩, rfl⟩; refine n1 ?_) | refine mv ?_ | refine asn ?_ | refine jn ?_ | refine nl ?_ | refine ld rfl ?_ | refine nc ?_ | refine f0 ?_ | refine xt2 ?_ | refine sq ?_ | refine rg ?_ | refine lnb ?_ | refine lls rfl ?_ | refine ad ?_ | refine sb ?_ | refine lss ?_ | refine eql ?_ | refine neq ?_ | refine gtr ?_ | refine geq ?_ | refine leq ?_ | refine nt ?_ | refine pen ?_ | refine pnn ?_ | refine p1 ?_ | refine p0 ?_ | refine sk2 ?_ | refine kp ?_ | refine ct ?_ | refine cf ?_ | (refine cd (fun hc => ?_) (fun hc => ?_) <;> try (exfalso; omega)) | (refine cn (fun hc => ?_) (fun hc => ?_) <;> try (exfalso; omega)) | refine bl ?_ | refine ib ?_ | refine xt ?_ | refine bx (fun b_ => ?_) | refine al (fun b_ => ?_) | refine sr rfl ?_ | refine la rfl ?_ | refine ixa rfl rfl ?_ | refine fe ?_ | refine lde rfl ?_ | refine lae rfl ?_ | refine fa ?_ | refine bld ?_ | refine mf2 ?_ | refine seq ?_ | refine sne ?_ | refine cc ?_ | refine ixb ?_ | refine slb ?_ | refine slbl ?_ | refine slbh ?_ | refine cv ?_ | refine mx ?_ | refine mn ?_ | refine ml ?_ | refine af_ ?_ | (refine gd (fun hc => ?_) (fun hc => ?_) <;> try (exfalso; omega)) | (refine gn (fun hc => ?_) (fun hc => ?_) <;> try (exfalso; omega)) | refine aw ?_ | refine pes ?_ | refine pns ?_ | refine sw ?_ | refine ng ?_ | refine aeq ?_ | refine ane ?_ | refine sli rfl ?_ | refine slil rfl ?_ | refine slih rfl ?_ | refine cb (fun hc => ?_) (fun hc => ?_) | refine gs (fun hc => ?_) (fun hc => ?_))
  refine rt ?_
  refine ⟨_, ⟨?_, rfl⟩, _, by repeat constructor⟩
  show Value.bool _ = _
  congr 1
  rw [Bool.eq_iff_iff, decide_eq_true_iff, decide_eq_true_iff]; exact hn
theorem still_tr (w d m : Nat) (h : Hrd) (ev sv uv : Value) (S : List Seg) (D : DiskS) (hD : D.Ok) (hS : S ≠ []) (hSl : S.length ≤ 100000) (hn0 : 0 ≤ (lastS S).number) (hn1 : (lastS S).number < 100) :
    Tr Tryz.prog 59 [.pointer (some ⟨w, 0, none⟩), uv] [blk w (lcell d h ev sv), sl 94 segE sv S, blk d (dcell m D), mp fmap m D.files]
      fun v Γ => v = (if segFile (lastS S) ∈ D.files.map (·.1) then sv else uv) ∧ Γ = [blk w (lcell d h ev sv), sl 94 segE sv S, blk d (dcell m D), mp fmap m D.files] := by
  have hS0 : 0 < S.length := List.length_pos_iff.2 hS
  have hlen : (sortN (D.files.map (·.1))).length ≤ 1000000 := by
    have := hD.ct
    unfold sortN; rw [List.length_mergeSort, List.length_map]; omega
  refine Tr_of_J Tryz.func59 follows rfl Tryz.ntmps59 (by simp) fun B F => ?_
  repeat' (first | refine JS_cons rfl rfl (RO_lae rfl (by omega) (by repeat constructor)) ?_ | (refine cl (list_tr d m D hD) ?_; rintro r Γ' rfl; refine n3 ?_) | (refine cl (segName_tr (lastS S) hn0 hn1) ?_; rintro r2 Γ' ⟨rfl, rfl⟩; refine n0 ?_) | (refine cl (contains_tr _ (sortN (D.files.map (·.1))) (segFile (lastS S)) hlen) ?_; rintro r3 Γ' ⟨rfl, rfl⟩; refine n1 ?_) | refine mv ?_ | refine asn ?_ | refine jn ?_ | refine nl ?_ | refine ld rfl ?_ | refine nc ?_ | refine f0 ?_ | refine xt2 ?_ | refine sq ?_ | refine rg ?_ | refine lnb ?_ | refine lls rfl ?_ | refine ad ?_ | refine sb ?_ | refine lss ?_ | refine eql ?_ | refine neq ?_ | refine gtr ?_ | refine geq ?_ | refine leq ?_ | refine nt ?_ | refine pen ?_ | refine pnn ?_ | refine p1 ?_ | refine p0 ?_ | refine sk2 ?_ | refine kp ?_ | refine ct ?_ | refine cf ?_ | (refine cd (fun hc => ?_) (fun hc => ?_) <;> try (exfalso; omega)) | (refine cn (fun hc => ?_) (fun hc => ?_) <;> try (exfalso; omega)) | refine bl ?_ | refine ib ?_ | refine xt ?_ | refine bx (fun b_ => ?_) | refine al (fun b_ => ?_) | refine sr rfl ?_ | refine la rfl ?_ | refine ixa rfl rfl ?_ | refine fe ?_ | refine lde rfl ?_ | refine lae rfl ?_ | refine fa ?_ | refine bld ?_ | refine mf2 ?_ | refine seq ?_ | refine sne ?_ | refine cc ?_ | refine ixb ?_ | refine slb ?_ | refine slbl ?_ | refine slbh ?_ | refine cv ?_ | refine mx ?_ | refine mn ?_ | refine ml ?_ | refine af_ ?_ | (refine gd (fun hc => ?_) (fun hc => ?_) <;> try (exfalso; omega)) | (refine gn (fun hc => ?_) (fun hc => ?_) <;> try (exfalso; omega)) | refine aw ?_ | refine pes ?_ | refine pns ?_ | refine sw ?_ | refine ng ?_ | refine aeq ?_ | refine ane ?_ | refine sli rfl ?_ | refine slil rfl ?_ | refine slih rfl ?_ | refine cb (fun hc => ?_) (fun hc => ?_) | refine gs (fun hc => ?_) (fun hc => ?_) | refine J_draw (id := 1) [(0, true, []), (1, true, []), (2, true, []), (3, true, []), (5, true, []), (6, true, []), (7, true, []), (8, true, []), (9, true, []), (10, true, []), (11, true, []), (12, true, []), (13, true, []), (14, true, []), (15, true, []), (16, true, []), (4, false, [5, 6, 7, 8, 9, 10, 11, 12, 13, 14, 15, 16]), (17, false, []), (18, false, [])] (by kernel_rfl) ?_ | refine JS_cons rfl rfl (RO_move rfl) ?_ | refine JS_cons rfl rfl (RO_nilCheck rfl) ?_ | refine JS_cons rfl rfl (RO_fieldAddr0 rfl) ?_ | refine JS_cons rfl rfl (RO_load rfl (by rfl)) ?_ | refine JS_off rfl ?_ | refine JS_cons rfl rfl (RO_extract rfl rfl) ?_ | refine JS_cons rfl rfl (RO_not rfl) ?_ | refine JS_cons rfl rfl (RO_fieldAddr rfl) ?_ | refine JS_cons rfl rfl (RO_lnb rfl) ?_ | refine JS_cons rfl rfl (RO_lls rfl) ?_ | refine JS_cons rfl rfl (RO_add_in rfl rfl (by omega)) ?_ | refine JS_cons rfl rfl (RO_sub_in rfl rfl (by omega)) ?_ | refine JS_cons rfl rfl (RO_ixa rfl rfl (by omega)) ?_ | refine JS_cons rfl rfl (RO_fe rfl) ?_ | refine JS_cons rfl rfl (RO_lde rfl (by omega) rfl) ?_ | refine JS_cons rfl rfl (RO_slih rfl rfl (by omega)) ?_ | refine JS_cons rfl rfl (RO_slil rfl rfl (by omega)) ?_ | refine JS_offu rfl ?_ | refine JS_cons rfl rfl (RO_cc rfl rfl (by omega)) ?_ | refine JS_cons rfl rfl (RO_bld rfl (by (repeat (first | exact FillS.nil | (apply FillS.cons; rfl; rfl; constructor; rfl; (focus repeat constructor)))))) ?_ | refine JS_cons rfl rfl (RO_lae rfl (by omega) (by repeat constructor)) ?_ | refine JS_cons rfl rfl (RO_loadAgg rfl (by repeat constructor)) ?_)
  · have hc : segFile (lastS S) ∈ D.files.map (·.1) := by
      have : segFile (lastS S) ∈ sortN (D.files.map (·.1)) := by assumption
      exact List.mem_mergeSort.1 this
    refine rt ?_
    exact ⟨_, ⟨by rw [if_pos hc]; rfl, rfl⟩, _, by repeat constructor⟩
  · have hc : ¬ segFile (lastS S) ∈ D.files.map (·.1) := by
      have : ¬ segFile (lastS S) ∈ sortN (D.files.map (·.1)) := by assumption
      exact fun h => this (List.mem_mergeSort.2 h)
    refine rt ?_
    exact ⟨_, ⟨by rw [if_neg hc]; rfl, rfl⟩, _, by repeat constructor⟩
end Go.Proofs.YtaeefjcbmkiiaaaGreatDoor
