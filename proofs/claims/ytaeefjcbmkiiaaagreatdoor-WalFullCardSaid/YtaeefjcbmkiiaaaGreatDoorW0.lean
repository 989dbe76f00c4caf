/- The log's small functions, walked. -/
import Derived.Test.YtaeefjcbmkiiaaaGreatDoorC2
import Derived.Test.YtaeefjcbmkiiaaaGreatDoorM2
import Derived.Test.YtaeefjcbmkiiaaaGreatDoorD2
namespace Go.Proofs.YtaeefjcbmkiiaaaGreatDoor
open Go Sl
attribute [local irreducible] J JR JS RO CR Arr Sat Tr sat blk
set_option linter.unusedVariables false
set_option maxHeartbeats 400000
set_option maxRecDepth 4000

def entE : EncT Ent where
  enc e := [.int .i64 e.index, .int .i64 e.term, .int .i64 e.kind, vs e.data]
  dec := fun l => match l with | [.int _ a, .int _ b, .int _ c, .string s] => ⟨a, b, c, s.data.toList⟩ | _ => ⟨0, 0, 0, []⟩
  sz := 4
  dflt := ⟨0, 0, 0, []⟩
  len _ := rfl
  ok _ := rfl
  pos := by decide
def segE : EncT Seg where
  enc s := [.int .i64 s.number, .int .i64 s.size, .int .i64 s.top]
  dec := fun l => match l with | [.int _ a, .int _ b, .int _ c] => ⟨a, b, c⟩ | _ => ⟨0, 0, 0⟩
  sz := 3
  dflt := ⟨0, 0, 0⟩
  len _ := rfl
  ok _ := rfl
  pos := by decide
instance : TEnc 70 entE := ⟨trivial⟩
instance : TEnc 94 segE := ⟨trivial⟩
abbrev entV (e : Ent) : Value := .agg ⟨[.int .i64 e.index, .int .i64 e.term, .int .i64 e.kind, vs e.data]⟩
abbrev segV (s : Seg) : Value := .agg ⟨[.int .i64 s.number, .int .i64 s.size, .int .i64 s.top]⟩
abbrev hrdV (h : Hrd) : Value := .agg ⟨[.int .i64 h.term, .int .i64 h.vote]⟩
/-- A log's own block. -/
abbrev lcell (d : Nat) (h : Hrd) (ev sv : Value) : Obj := .cells ⟨[.pointer (some ⟨d, 0, none⟩), .int .i64 h.term, .int .i64 h.vote, ev, sv]⟩ 92 (0, 0)

theorem right_tr (e : Ent) : Tr Tryz.prog 57 [entV e] [] fun v Γ => v = .bool e.right ∧ Γ = [] := by
  refine Tr_of_J Tryz.func57 follows rfl Tryz.ntmps57 (by simp) fun B F => ?_
  repeat' (first | refine mv ?_ | refine asn ?_ | refine jn ?_ | refine nl ?_ | refine ld rfl ?_ | refine nc ?_ | refine f0 ?_ | refine xt2 ?_ | refine sq ?_ | refine rg ?_ | refine lnb ?_ | refine lls rfl ?_ | refine ad ?_ | refine sb ?_ | refine lss ?_ | refine eql ?_ | refine neq ?_ | refine gtr ?_ | refine geq ?_ | refine leq ?_ | refine nt ?_ | refine pen ?_ | refine pnn ?_ | refine p1 ?_ | refine p0 ?_ | refine sk2 ?_ | refine kp ?_ | refine ct ?_ | refine cf ?_ | (refine cd (fun hc => ?_) (fun hc => ?_) <;> try (exfalso; omega)) | (refine cn (fun hc => ?_) (fun hc => ?_) <;> try (exfalso; omega)) | refine bl ?_ | refine ib ?_ | refine xt ?_ | refine bx (fun b_ => ?_) | refine al (fun b_ => ?_) | refine sr rfl ?_ | refine la rfl ?_ | refine ixa rfl rfl ?_ | refine fe ?_ | refine lde rfl ?_ | refine lae rfl ?_ | refine fa ?_ | refine bld ?_ | refine mf2 ?_ | refine seq ?_ | refine sne ?_ | refine cc ?_ | refine ixb ?_ | refine slb ?_ | refine slbl ?_ | refine slbh ?_ | refine cv ?_ | refine mx ?_ | refine mn ?_ | refine ml ?_ | refine af_ ?_ | (refine gd (fun hc => ?_) (fun hc => ?_) <;> try (exfalso; omega)) | (refine gn (fun hc => ?_) (fun hc => ?_) <;> try (exfalso; omega)) | refine aw ?_ | refine pes ?_ | refine pns ?_ | refine sw ?_ | refine ng ?_ | refine aeq ?_ | refine ane ?_ | refine sli rfl ?_ | refine slil rfl ?_ | refine slih rfl ?_ | refine cb (fun hc => ?_) (fun hc => ?_) | refine gs (fun hc => ?_) (fun hc => ?_))
  all_goals refine rt ?_
  all_goals refine ⟨_, ⟨?_, rfl⟩, _, by repeat constructor⟩
  all_goals (simp_all [Ent.right, tupleOf]; try (intros; omega))
theorem dec_len (n : Nat) (h : n < 100) : (Lib.decDigits n).length ≤ 2 := by
  unfold Lib.decDigits
  split
  · exact Nat.le_succ _
  · rw [List.length_append]
    unfold Lib.decDigits
    rw [dif_pos (by omega)]; exact Nat.le_refl _
theorem segName_tr (s : Seg) (h0 : 0 ≤ s.number) (h1 : s.number < 100) : Tr Tryz.prog 43 [segV s] [] fun v Γ => v = vs (segName s.number.toNat) ∧ Γ = [] := by
  obtain ⟨num, size, top⟩ := s
  dsimp only at h0 h1
  obtain ⟨n, rfl⟩ : ∃ n : Nat, num = n := ⟨num.toNat, by omega⟩
  have hd : (Lib.decDigits n).length ≤ 2 := dec_len n (by omega)
  refine Tr_of_J Tryz.func43 follows rfl Tryz.ntmps43 (by simp) fun B F => ?_
  repeat' (first | (refine cl (itoa_tr n (by omega)) ?_; rintro v Γ' ⟨rfl, rfl⟩; refine n0 ?_) | refine cc (a := [119]) ?_ rfl rfl (by simp; omega) | refine mv ?_ | refine asn ?_ | refine jn ?_ | refine nl ?_ | refine ld rfl ?_ | refine nc ?_ | refine f0 ?_ | refine xt2 ?_ | refine sq ?_ | refine rg ?_ | refine lnb ?_ | refine lls rfl ?_ | refine ad ?_ | refine sb ?_ | refine lss ?_ | refine eql ?_ | refine neq ?_ | refine gtr ?_ | refine geq ?_ | refine leq ?_ | refine nt ?_ | refine pen ?_ | refine pnn ?_ | refine p1 ?_ | refine p0 ?_ | refine sk2 ?_ | refine kp ?_ | refine ct ?_ | refine cf ?_ | (refine cd (fun hc => ?_) (fun hc => ?_) <;> try (exfalso; omega)) | (refine cn (fun hc => ?_) (fun hc => ?_) <;> try (exfalso; omega)) | refine bl ?_ | refine ib ?_ | refine xt ?_ | refine bx (fun b_ => ?_) | refine al (fun b_ => ?_) | refine sr rfl ?_ | refine la rfl ?_ | refine ixa rfl rfl ?_ | refine fe ?_ | refine lde rfl ?_ | refine lae rfl ?_ | refine fa ?_ | refine bld ?_ | refine mf2 ?_ | refine seq ?_ | refine sne ?_ | refine cc ?_ | refine ixb ?_ | refine slb ?_ | refine slbl ?_ | refine slbh ?_ | refine cv ?_ | refine mx ?_ | refine mn ?_ | refine ml ?_ | refine af_ ?_ | (refine gd (fun hc => ?_) (fun hc => ?_) <;> try (exfalso; omega)) | (refine gn (fun hc => ?_) (fun hc => ?_) <;> try (exfalso; omega)) | refine aw ?_ | refine pes ?_ | refine pns ?_ | refine sw ?_ | refine ng ?_ | refine aeq ?_ | refine ane ?_ | refine sli rfl ?_ | refine slil rfl ?_ | refine slih rfl ?_ | refine cb (fun hc => ?_) (fun hc => ?_) | refine gs (fun hc => ?_) (fun hc => ?_))
  refine rt ?_
  exact ⟨_, ⟨rfl, rfl⟩, _, by repeat constructor⟩
theorem hardText_tr (h : Hrd) (hi : h.In) : Tr Tryz.prog 84 [hrdV h] [] fun v Γ => v = vs (hardText h) ∧ Γ = [] := by
  have hr : ∀ n ∈ [1, h.term, h.vote], -9223372036854775808 ≤ n ∧ n ≤ 9223372036854775807 := by
    intro n hn
    simp only [List.mem_cons, List.not_mem_nil, or_false] at hn
    rcases hn with rfl | rfl | rfl
    · decide
    · exact hi.t
    · exact hi.v
  refine Tr_of_J Tryz.func84 follows rfl Tryz.ntmps84 (by simp) fun B F => ?_
  repeat' (first | refine bsl (e := intE) (X := [1, h.term, h.vote]) (fun v2 => ?_) (.cona rfl rfl (.cona rfl rfl (.cona rfl rfl .nil))) | (refine cl (Int_tr v2 [1, h.term, h.vote] (by simp) hr (by simp)) ?_; rintro v Γ' ⟨rfl, rfl⟩; refine n1 ?_) | refine mv ?_ | refine asn ?_ | refine jn ?_ | refine nl ?_ | refine ld rfl ?_ | refine nc ?_ | refine f0 ?_ | refine xt2 ?_ | refine sq ?_ | refine rg ?_ | refine lnb ?_ | refine lls rfl ?_ | refine ad ?_ | refine sb ?_ | refine lss ?_ | refine eql ?_ | refine neq ?_ | refine gtr ?_ | refine geq ?_ | refine leq ?_ | refine nt ?_ | refine pen ?_ | refine pnn ?_ | refine p1 ?_ | refine p0 ?_ | refine sk2 ?_ | refine kp ?_ | refine ct ?_ | refine cf ?_ | (refine cd (fun hc => ?_) (fun hc => ?_) <;> try (exfalso; omega)) | (refine cn (fun hc => ?_) (fun hc => ?_) <;> try (exfalso; omega)) | refine bl ?_ | refine ib ?_ | refine xt ?_ | refine bx (fun b_ => ?_) | refine al (fun b_ => ?_) | refine sr rfl ?_ | refine la rfl ?_ | refine ixa rfl rfl ?_ | refine fe ?_ | refine lde rfl ?_ | refine lae rfl ?_ | refine fa ?_ | refine bld ?_ | refine mf2 ?_ | refine seq ?_ | refine sne ?_ | refine cc ?_ | refine ixb ?_ | refine slb ?_ | refine slbl ?_ | refine slbh ?_ | refine cv ?_ | refine mx ?_ | refine mn ?_ | refine ml ?_ | refine af_ ?_ | (refine gd (fun hc => ?_) (fun hc => ?_) <;> try (exfalso; omega)) | (refine gn (fun hc => ?_) (fun hc => ?_) <;> try (exfalso; omega)) | refine aw ?_ | refine pes ?_ | refine pns ?_ | refine sw ?_ | refine ng ?_ | refine aeq ?_ | refine ane ?_ | refine sli rfl ?_ | refine slil rfl ?_ | refine slih rfl ?_ | refine cb (fun hc => ?_) (fun hc => ?_) | refine gs (fun hc => ?_) (fun hc => ?_))
  refine rt ?_
  exact ⟨_, ⟨rfl, rfl⟩, _, by repeat constructor⟩
theorem entText_tr (e : Ent) (hi : e.In) (hd : e.data.length ≤ 1000000) : Tr Tryz.prog 58 [entV e] [] fun v Γ => v = vs (entText e) ∧ Γ = [] := by
  have hr : ∀ n ∈ [2, e.index, e.term, e.kind], -9223372036854775808 ≤ n ∧ n ≤ 9223372036854775807 := by
    intro n hn
    simp only [List.mem_cons, List.not_mem_nil, or_false] at hn
    rcases hn with rfl | rfl | rfl | rfl
    · decide
    · exact hi.i
    · exact hi.t
    · exact hi.k
  have hr2 : ∀ s ∈ [e.data], s.length ≤ 1000000 := by
    intro s hs
    rw [List.mem_singleton.1 hs]; exact hd
  have l1 : (encInts [2, e.index, e.term, e.kind]).length + (encTexts [e.data]).length ≤ 9223372036854775807 := by
    have h2 := (encInt_length (n := 2) (by decide) (by decide)).2
    have h3 := (encInt_length hi.i.1 hi.i.2).2
    have h4 := (encInt_length hi.t.1 hi.t.2).2
    have h5 := (encInt_length hi.k.1 hi.k.2).2
    have h6 := (encInt_length (n := e.data.length) (by omega) (by omega)).2
    simp only [encInts, encTexts, encText, List.flatMap_cons, List.flatMap_nil, List.length_append, List.append_nil]
    omega
  refine Tr_of_J Tryz.func58 follows rfl Tryz.ntmps58 (by simp) fun B F => ?_
  repeat' (first | refine bsl (e := intE) (X := [2, e.index, e.term, e.kind]) (fun v2 => ?_) (.cona rfl rfl (.cona rfl rfl (.cona rfl rfl (.cona rfl rfl .nil)))) | (refine cl (Int_tr v2 [2, e.index, e.term, e.kind] (by simp) hr (by simp)) ?_; rintro v Γ' ⟨rfl, rfl⟩; refine n1 ?_) | refine bsl (e := strE) (X := [e.data]) (fun v3 => ?_) (.cona rfl rfl .nil) | (refine cl (Text_tr v3 [e.data] (by simp) hr2 (by simp)) ?_; rintro v Γ' ⟨rfl, rfl⟩; refine n1 ?_) | refine cc ?_ rfl rfl l1 | refine mv ?_ | refine asn ?_ | refine jn ?_ | refine nl ?_ | refine ld rfl ?_ | refine nc ?_ | refine f0 ?_ | refine xt2 ?_ | refine sq ?_ | refine rg ?_ | refine lnb ?_ | refine lls rfl ?_ | refine ad ?_ | refine sb ?_ | refine lss ?_ | refine eql ?_ | refine neq ?_ | refine gtr ?_ | refine geq ?_ | refine leq ?_ | refine nt ?_ | refine pen ?_ | refine pnn ?_ | refine p1 ?_ | refine p0 ?_ | refine sk2 ?_ | refine kp ?_ | refine ct ?_ | refine cf ?_ | (refine cd (fun hc => ?_) (fun hc => ?_) <;> try (exfalso; omega)) | (refine cn (fun hc => ?_) (fun hc => ?_) <;> try (exfalso; omega)) | refine bl ?_ | refine ib ?_ | refine xt ?_ | refine bx (fun b_ => ?_) | refine al (fun b_ => ?_) | refine sr rfl ?_ | refine la rfl ?_ | refine ixa rfl rfl ?_ | refine fe ?_ | refine lde rfl ?_ | refine lae rfl ?_ | refine fa ?_ | refine bld ?_ | refine mf2 ?_ | refine seq ?_ | refine sne ?_ | refine cc ?_ | refine ixb ?_ | refine slb ?_ | refine slbl ?_ | refine slbh ?_ | refine cv ?_ | refine mx ?_ | refine mn ?_ | refine ml ?_ | refine af_ ?_ | (refine gd (fun hc => ?_) (fun hc => ?_) <;> try (exfalso; omega)) | (refine gn (fun hc => ?_) (fun hc => ?_) <;> try (exfalso; omega)) | refine aw ?_ | refine pes ?_ | refine pns ?_ | refine sw ?_ | refine ng ?_ | refine aeq ?_ | refine ane ?_ | refine sli rfl ?_ | refine slil rfl ?_ | refine slih rfl ?_ | refine cb (fun hc => ?_) (fun hc => ?_) | refine gs (fun hc => ?_) (fun hc => ?_) | refine J_draw3 (id := 1) [(0, true, []), (1, true, []), (2, true, []), (3, true, []), (4, true, []), (5, true, []), (8, true, []), (9, true, []), (6, false, [8, 9]), (7, false, [8, 9]), (10, false, [0, 1, 2, 3, 4, 5]), (11, false, []), (12, true, []), (13, true, [])] [(0, true, []), (1, true, []), (2, true, []), (3, true, []), (4, true, []), (5, true, []), (8, true, []), (9, true, []), (6, false, [8, 9]), (10, false, [0, 1, 2, 3, 4, 5]), (7, false, [8, 9]), (11, false, []), (12, true, []), (13, true, [])] [(0, true, []), (1, true, []), (2, true, []), (3, true, []), (4, true, []), (5, true, []), (8, true, []), (9, true, []), (10, false, [0, 1, 2, 3, 4, 5]), (6, false, [8, 9]), (7, false, [8, 9]), (11, false, []), (12, true, []), (13, true, [])] (by kernel_rfl) ?_ ?_ ?_ | refine JS_cons rfl rfl (RO_move rfl) ?_ | refine JS_cons rfl rfl (RO_nilCheck rfl) ?_ | refine JS_cons rfl rfl (RO_fieldAddr0 rfl) ?_ | refine JS_cons rfl rfl (RO_load rfl (by rfl)) ?_ | refine JS_off rfl ?_ | refine JS_cons rfl rfl (RO_extract rfl rfl) ?_ | refine JS_cons rfl rfl (RO_not rfl) ?_ | refine JS_cons rfl rfl (RO_fieldAddr rfl) ?_ | refine JS_cons rfl rfl (RO_lnb rfl) ?_ | refine JS_cons rfl rfl (RO_lls rfl) ?_ | refine JS_cons rfl rfl (RO_add_in rfl rfl (by omega)) ?_ | refine JS_cons rfl rfl (RO_sub_in rfl rfl (by omega)) ?_ | refine JS_cons rfl rfl (RO_ixa rfl rfl (by omega)) ?_ | refine JS_cons rfl rfl (RO_fe rfl) ?_ | refine JS_cons rfl rfl (RO_lde rfl (by omega) rfl) ?_ | refine JS_cons rfl rfl (RO_slih rfl rfl (by omega)) ?_ | refine JS_cons rfl rfl (RO_slil rfl rfl (by omega)) ?_ | refine JS_offu rfl ?_ | refine JS_cons rfl rfl (RO_cc rfl rfl (by omega)) ?_ | refine JS_cons rfl rfl (RO_bld rfl (by (repeat (first | exact FillS.nil | (apply FillS.cons; rfl; rfl; constructor; rfl; (focus repeat constructor)))))) ?_ | refine JS_cons rfl rfl (RO_lae rfl (by omega) (by repeat constructor)) ?_ | refine JS_cons rfl rfl (RO_loadAgg rfl (by repeat constructor)) ?_)
  all_goals refine rt ?_
  all_goals exact ⟨_, ⟨rfl, rfl⟩, _, by repeat constructor⟩
end Go.Proofs.YtaeefjcbmkiiaaaGreatDoor
