/- strings.Builder: its methods, walked. -/
import Derived.Test.YtaeefjcbmkiiaaaGreatDoorTy
import Derived.Test.YtaeefjcbmkiiaaaGreatDoorSlB
namespace Go.Proofs.YtaeefjcbmkiiaaaGreatDoor
open Go Sl
attribute [local irreducible] J JR JS RO CR Arr Sat Tr sat blk
set_option linter.unusedVariables false
set_option maxHeartbeats 400000
set_option maxRecDepth 4000

/-- A builder's own block. -/
abbrev bcell (E : TypeId) (p v : Value) : Obj := .cells ⟨[p, v]⟩ E (0, 0)
/-- A type that a builder lies at the head of. -/
class BdT (E : TypeId) : Prop where
  h : liesAt Tryz.prog Tryz.prog.depth E (2 / Tryz.prog.cellsOf E) 0 143 1 = true
instance : TEnc 5 byteE := ⟨trivial⟩
instance : BdT 143 := ⟨by kernel_rfl⟩
instance : BdT 155 := ⟨by kernel_rfl⟩
theorem noEscape (v : Value) (w : World) : (callFunc 178 ⟨[v]⟩).run Tryz.prog w = .ok (.value v) w := by
  rw [run_callFunc_extern Tryz.func178 (by kernel_rfl) (by kernel_rfl) (by kernel_rfl) (e := Extern.AbiNoEscape.same) (by kernel_rfl)]
  rfl

theorem check0_tr (E : TypeId) [hE : BdT E] (b : Nat) (v : Value) :
    Tr Tryz.prog 139 [.pointer (some ⟨b, 0, none⟩)] [blk b (bcell E (.pointer none) v)] fun r Γ => r = .tuple #[] ∧ Γ = [blk b (bcell E (.pointer (some ⟨b, 0, none⟩)) v)] := by
  refine Tr_of_J Tryz.func139 follows rfl Tryz.ntmps139 (by simp) fun B F => ?_
  repeat' (first | refine upc rfl ?_ | refine cx (noEscape _) ?_ | (refine dpc (n := 2) rfl ?hh ?_; case hh => exact hE.h) | refine mv ?_ | refine asn ?_ | refine jn ?_ | refine nl ?_ | refine ld rfl ?_ | refine nc ?_ | refine f0 ?_ | refine xt2 ?_ | refine sq ?_ | refine rg ?_ | refine lnb ?_ | refine lls rfl ?_ | refine ad ?_ | refine sb ?_ | refine lss ?_ | refine eql ?_ | refine neq ?_ | refine gtr ?_ | refine geq ?_ | refine leq ?_ | refine nt ?_ | refine pen ?_ | refine pnn ?_ | refine p1 ?_ | refine p0 ?_ | refine sk2 ?_ | refine kp ?_ | refine ct ?_ | refine cf ?_ | (refine cd (fun hc => ?_) (fun hc => ?_) <;> try (exfalso; omega)) | (refine cn (fun hc => ?_) (fun hc => ?_) <;> try (exfalso; omega)) | refine bl ?_ | refine ib ?_ | refine xt ?_ | refine bx (fun b_ => ?_) | refine al (fun b_ => ?_) | refine sr rfl ?_ | refine la rfl ?_ | refine ixa rfl rfl ?_ | refine fe ?_ | refine lde rfl ?_ | refine lae rfl ?_ | refine fa ?_ | refine bld ?_ | refine mf2 ?_ | refine seq ?_ | refine sne ?_ | refine cc ?_ | refine ixb ?_ | refine slb ?_ | refine slbl ?_ | refine slbh ?_ | refine cv ?_ | refine mx ?_ | refine mn ?_ | refine ml ?_ | refine af_ ?_ | (refine gd (fun hc => ?_) (fun hc => ?_) <;> try (exfalso; omega)) | (refine gn (fun hc => ?_) (fun hc => ?_) <;> try (exfalso; omega)) | refine aw ?_ | refine pes ?_ | refine pns ?_ | refine sw ?_ | refine ng ?_ | refine aeq ?_ | refine ane ?_ | refine sli rfl ?_ | refine slil rfl ?_ | refine slih rfl ?_ | refine cb (fun hc => ?_) (fun hc => ?_) | refine gs (fun hc => ?_) (fun hc => ?_))
  refine rte ?_
  exact ⟨_, ⟨rfl, rfl⟩, _, by repeat constructor⟩
theorem check1_tr (E : TypeId) (b : Nat) (v : Value) :
    Tr Tryz.prog 139 [.pointer (some ⟨b, 0, none⟩)] [blk b (bcell E (.pointer (some ⟨b, 0, none⟩)) v)] fun r Γ => r = .tuple #[] ∧ Γ = [blk b (bcell E (.pointer (some ⟨b, 0, none⟩)) v)] := by
  refine Tr_of_J Tryz.func139 follows rfl Tryz.ntmps139 (by simp) fun B F => ?_
  repeat' (first | refine mv ?_ | refine asn ?_ | refine jn ?_ | refine nl ?_ | refine ld rfl ?_ | refine nc ?_ | refine f0 ?_ | refine xt2 ?_ | refine sq ?_ | refine rg ?_ | refine lnb ?_ | refine lls rfl ?_ | refine ad ?_ | refine sb ?_ | refine lss ?_ | refine eql ?_ | refine neq ?_ | refine gtr ?_ | refine geq ?_ | refine leq ?_ | refine nt ?_ | refine pen ?_ | refine pnn ?_ | refine p1 ?_ | refine p0 ?_ | refine sk2 ?_ | refine kp ?_ | refine ct ?_ | refine cf ?_ | (refine cd (fun hc => ?_) (fun hc => ?_) <;> try (exfalso; omega)) | (refine cn (fun hc => ?_) (fun hc => ?_) <;> try (exfalso; omega)) | refine bl ?_ | refine ib ?_ | refine xt ?_ | refine bx (fun b_ => ?_) | refine al (fun b_ => ?_) | refine sr rfl ?_ | refine la rfl ?_ | refine ixa rfl rfl ?_ | refine fe ?_ | refine lde rfl ?_ | refine lae rfl ?_ | refine fa ?_ | refine bld ?_ | refine mf2 ?_ | refine seq ?_ | refine sne ?_ | refine cc ?_ | refine ixb ?_ | refine slb ?_ | refine slbl ?_ | refine slbh ?_ | refine cv ?_ | refine mx ?_ | refine mn ?_ | refine ml ?_ | refine af_ ?_ | (refine gd (fun hc => ?_) (fun hc => ?_) <;> try (exfalso; omega)) | (refine gn (fun hc => ?_) (fun hc => ?_) <;> try (exfalso; omega)) | refine aw ?_ | refine pes ?_ | refine pns ?_ | refine sw ?_ | refine ng ?_ | refine aeq ?_ | refine ane ?_ | refine sli rfl ?_ | refine slil rfl ?_ | refine slih rfl ?_ | refine cb (fun hc => ?_) (fun hc => ?_) | refine gs (fun hc => ?_) (fun hc => ?_))
  refine rte ?_
  exact ⟨_, ⟨rfl, rfl⟩, _, by repeat constructor⟩
/-- What a builder says of itself: nothing yet, or its own place. -/
def BP (b : Nat) (p : Value) : Prop := p = .pointer none ∨ p = .pointer (some ⟨b, 0, none⟩)
theorem check_tr (E : TypeId) [hE : BdT E] (b : Nat) (p v : Value) (hp : BP b p) :
    Tr Tryz.prog 139 [.pointer (some ⟨b, 0, none⟩)] [blk b (bcell E p v)] fun r Γ => r = .tuple #[] ∧ Γ = [blk b (bcell E (.pointer (some ⟨b, 0, none⟩)) v)] := by
  rcases hp with rfl | rfl
  · exact check0_tr E b v
  · exact check1_tr E b v
theorem wstr_tr (E : TypeId) [hE : BdT E] (b : Nat) (p v : Value) (hp : BP b p) (L s : List UInt8) (hl : L.length + s.length ≤ 140737488355328) :
    Tr Tryz.prog 86 [.pointer (some ⟨b, 0, none⟩), vs s] [blk b (bcell E p v), sl 5 byteE v L]
      fun r Γ => ∃ v', Γ = [blk b (bcell E (.pointer (some ⟨b, 0, none⟩)) v'), sl 5 byteE v' (L ++ s)] := by
  refine Tr_of_J Tryz.func86 follows rfl Tryz.ntmps86 (by simp) fun B F => ?_
  repeat' (first | (refine cl (check_tr E b p v hp) ?_; rintro v0 Γ' ⟨rfl, rfl⟩; refine n1 ?_) | refine aps rfl rfl (fun v' => ?_) | refine sro rfl rfl ?_ | refine mv ?_ | refine asn ?_ | refine jn ?_ | refine nl ?_ | refine ld rfl ?_ | refine nc ?_ | refine f0 ?_ | refine xt2 ?_ | refine sq ?_ | refine rg ?_ | refine lnb ?_ | refine lls rfl ?_ | refine ad ?_ | refine sb ?_ | refine lss ?_ | refine eql ?_ | refine neq ?_ | refine gtr ?_ | refine geq ?_ | refine leq ?_ | refine nt ?_ | refine pen ?_ | refine pnn ?_ | refine p1 ?_ | refine p0 ?_ | refine sk2 ?_ | refine kp ?_ | refine ct ?_ | refine cf ?_ | (refine cd (fun hc => ?_) (fun hc => ?_) <;> try (exfalso; omega)) | (refine cn (fun hc => ?_) (fun hc => ?_) <;> try (exfalso; omega)) | refine bl ?_ | refine ib ?_ | refine xt ?_ | refine bx (fun b_ => ?_) | refine al (fun b_ => ?_) | refine sr rfl ?_ | refine la rfl ?_ | refine ixa rfl rfl ?_ | refine fe ?_ | refine lde rfl ?_ | refine lae rfl ?_ | refine fa ?_ | refine bld ?_ | refine mf2 ?_ | refine seq ?_ | refine sne ?_ | refine cc ?_ | refine ixb ?_ | refine slb ?_ | refine slbl ?_ | refine slbh ?_ | refine cv ?_ | refine mx ?_ | refine mn ?_ | refine ml ?_ | refine af_ ?_ | (refine gd (fun hc => ?_) (fun hc => ?_) <;> try (exfalso; omega)) | (refine gn (fun hc => ?_) (fun hc => ?_) <;> try (exfalso; omega)) | refine aw ?_ | refine pes ?_ | refine pns ?_ | refine sw ?_ | refine ng ?_ | refine aeq ?_ | refine ane ?_ | refine sli rfl ?_ | refine slil rfl ?_ | refine slih rfl ?_ | refine cb (fun hc => ?_) (fun hc => ?_) | refine gs (fun hc => ?_) (fun hc => ?_))
  refine rt ?_
  exact ⟨_, ⟨_, rfl⟩, _, by repeat constructor⟩
theorem wbyte_tr (E : TypeId) [hE : BdT E] (b : Nat) (p v : Value) (hp : BP b p) (L : List UInt8) (x : UInt8) (hl : L.length + 1 ≤ 140737488355328) :
    Tr Tryz.prog 179 [.pointer (some ⟨b, 0, none⟩), .int .u8 x.toNat] [blk b (bcell E p v), sl 5 byteE v L]
      fun r Γ => ∃ v', Γ = [blk b (bcell E (.pointer (some ⟨b, 0, none⟩)) v'), sl 5 byteE v' (L ++ [x])] := by
  refine Tr_of_J Tryz.func179 follows rfl Tryz.ntmps179 (by simp) fun B F => ?_
  repeat' (first | (refine cl (check_tr E b p v hp) ?_; rintro v0 Γ' ⟨rfl, rfl⟩; refine n1 ?_) | refine bsl (e := byteE) (X := [x]) (fun v2 => ?_) (.cona rfl rfl .nil) | refine apo rfl rfl (fun v' => ?_) (by simp; omega) (by simp; omega) | refine sro rfl rfl ?_ | refine mv ?_ | refine asn ?_ | refine jn ?_ | refine nl ?_ | refine ld rfl ?_ | refine nc ?_ | refine f0 ?_ | refine xt2 ?_ | refine sq ?_ | refine rg ?_ | refine lnb ?_ | refine lls rfl ?_ | refine ad ?_ | refine sb ?_ | refine lss ?_ | refine eql ?_ | refine neq ?_ | refine gtr ?_ | refine geq ?_ | refine leq ?_ | refine nt ?_ | refine pen ?_ | refine pnn ?_ | refine p1 ?_ | refine p0 ?_ | refine sk2 ?_ | refine kp ?_ | refine ct ?_ | refine cf ?_ | (refine cd (fun hc => ?_) (fun hc => ?_) <;> try (exfalso; omega)) | (refine cn (fun hc => ?_) (fun hc => ?_) <;> try (exfalso; omega)) | refine bl ?_ | refine ib ?_ | refine xt ?_ | refine bx (fun b_ => ?_) | refine al (fun b_ => ?_) | refine sr rfl ?_ | refine la rfl ?_ | refine ixa rfl rfl ?_ | refine fe ?_ | refine lde rfl ?_ | refine lae rfl ?_ | refine fa ?_ | refine bld ?_ | refine mf2 ?_ | refine seq ?_ | refine sne ?_ | refine cc ?_ | refine ixb ?_ | refine slb ?_ | refine slbl ?_ | refine slbh ?_ | refine cv ?_ | refine mx ?_ | refine mn ?_ | refine ml ?_ | refine af_ ?_ | (refine gd (fun hc => ?_) (fun hc => ?_) <;> try (exfalso; omega)) | (refine gn (fun hc => ?_) (fun hc => ?_) <;> try (exfalso; omega)) | refine aw ?_ | refine pes ?_ | refine pns ?_ | refine sw ?_ | refine ng ?_ | refine aeq ?_ | refine ane ?_ | refine sli rfl ?_ | refine slil rfl ?_ | refine slih rfl ?_ | refine cb (fun hc => ?_) (fun hc => ?_) | refine gs (fun hc => ?_) (fun hc => ?_))
  refine rt ?_
  exact ⟨_, ⟨_, rfl⟩, _, by repeat constructor⟩
/-- The text of a builder that holds something; behind it the builder's length alone is known. -/
theorem str0_tr (E : TypeId) (b g cap : Nat) (p : Value) (L : List UInt8) (cur : Array Value) (hL : L ≠ []) (h1 : L.length ≤ cap) (h2 : cap ≤ maxLen) (h3 : cur.size = cap) (h4 : cur.toList.take L.length = flat byteE L) :
    Tr Tryz.prog 88 [.pointer (some ⟨b, 0, none⟩)] [blk b (bcell E p (.slice (some ⟨g, 0, none⟩) L.length cap)), blk g (.cells cur 5 (0, 0))]
      fun r Γ => r = vs L ∧ Γ = [blk b (bcell E p (.slice (some ⟨g, 0, none⟩) L.length cap))] := by
  have hc0 : cap ≠ 0 := by have : L.length ≠ 0 := fun e => hL (List.length_eq_zero_iff.1 e); omega
  have h63 : L.length ≤ 9223372036854775807 := by unfold maxLen at h2; omega
  refine Tr_of_J Tryz.func88 follows rfl Tryz.ntmps88 (by simp) fun B F => ?_
  repeat' (first | refine ll ?_ | refine usd ?_ rfl hc0 | refine uss (by kernel_rfl) (fun fz => ?_) hL (by omega) h63 h4 | refine JS_cons rfl rfl (RO_len_slice rfl) ?_ | refine mv ?_ | refine asn ?_ | refine jn ?_ | refine nl ?_ | refine ld rfl ?_ | refine nc ?_ | refine f0 ?_ | refine xt2 ?_ | refine sq ?_ | refine rg ?_ | refine lnb ?_ | refine lls rfl ?_ | refine ad ?_ | refine sb ?_ | refine lss ?_ | refine eql ?_ | refine neq ?_ | refine gtr ?_ | refine geq ?_ | refine leq ?_ | refine nt ?_ | refine pen ?_ | refine pnn ?_ | refine p1 ?_ | refine p0 ?_ | refine sk2 ?_ | refine kp ?_ | refine ct ?_ | refine cf ?_ | (refine cd (fun hc => ?_) (fun hc => ?_) <;> try (exfalso; omega)) | (refine cn (fun hc => ?_) (fun hc => ?_) <;> try (exfalso; omega)) | refine bl ?_ | refine ib ?_ | refine xt ?_ | refine bx (fun b_ => ?_) | refine al (fun b_ => ?_) | refine sr rfl ?_ | refine la rfl ?_ | refine ixa rfl rfl ?_ | refine fe ?_ | refine lde rfl ?_ | refine lae rfl ?_ | refine fa ?_ | refine bld ?_ | refine mf2 ?_ | refine seq ?_ | refine sne ?_ | refine cc ?_ | refine ixb ?_ | refine slb ?_ | refine slbl ?_ | refine slbh ?_ | refine cv ?_ | refine mx ?_ | refine mn ?_ | refine ml ?_ | refine af_ ?_ | (refine gd (fun hc => ?_) (fun hc => ?_) <;> try (exfalso; omega)) | (refine gn (fun hc => ?_) (fun hc => ?_) <;> try (exfalso; omega)) | refine aw ?_ | refine pes ?_ | refine pns ?_ | refine sw ?_ | refine ng ?_ | refine aeq ?_ | refine ane ?_ | refine sli rfl ?_ | refine slil rfl ?_ | refine slih rfl ?_ | refine cb (fun hc => ?_) (fun hc => ?_) | refine gs (fun hc => ?_) (fun hc => ?_) | refine J_draw (id := 1) [(0, true, []), (1, true, []), (2, true, []), (3, true, []), (5, true, []), (6, true, []), (7, true, []), (8, true, []), (9, true, []), (4, false, [5, 6, 7, 8, 9]), (10, false, []), (11, true, [])] (by kernel_rfl) ?_ | refine JS_cons rfl rfl (RO_move rfl) ?_ | refine JS_cons rfl rfl (RO_nilCheck rfl) ?_ | refine JS_cons rfl rfl (RO_fieldAddr0 rfl) ?_ | refine JS_cons rfl rfl (RO_load rfl (by rfl)) ?_ | refine JS_off rfl ?_ | refine JS_cons rfl rfl (RO_extract rfl rfl) ?_ | refine JS_cons rfl rfl (RO_not rfl) ?_ | refine JS_cons rfl rfl (RO_fieldAddr rfl) ?_ | refine JS_cons rfl rfl (RO_lnb rfl) ?_ | refine JS_cons rfl rfl (RO_lls rfl) ?_ | refine JS_cons rfl rfl (RO_add_in rfl rfl (by omega)) ?_ | refine JS_cons rfl rfl (RO_sub_in rfl rfl (by omega)) ?_ | refine JS_cons rfl rfl (RO_ixa rfl rfl (by omega)) ?_ | refine JS_cons rfl rfl (RO_fe rfl) ?_ | refine JS_cons rfl rfl (RO_lde rfl (by omega) rfl) ?_ | refine JS_cons rfl rfl (RO_slih rfl rfl (by omega)) ?_ | refine JS_cons rfl rfl (RO_slil rfl rfl (by omega)) ?_ | refine JS_offu rfl ?_ | refine JS_cons rfl rfl (RO_cc rfl rfl (by omega)) ?_ | refine JS_cons rfl rfl (RO_bld rfl (by (repeat (first | exact FillS.nil | (apply FillS.cons; rfl; rfl; constructor; rfl; (focus repeat constructor)))))) ?_ | refine JS_cons rfl rfl (RO_lae rfl (by omega) (by repeat constructor)) ?_ | refine JS_cons rfl rfl (RO_loadAgg rfl (by repeat constructor)) ?_)
  refine rt ?_
  exact ⟨_, ⟨rfl, rfl⟩, _, by repeat constructor⟩
theorem str_tr (E : TypeId) (b : Nat) (p v : Value) (L : List UInt8) (hL : L ≠ []) :
    Tr Tryz.prog 88 [.pointer (some ⟨b, 0, none⟩)] [blk b (bcell E p v), sl 5 byteE v L]
      fun r Γ => r = vs L ∧ Γ = [blk b (bcell E p v)] := by
  refine Tr.intro fun B F w hS => ?_
  have hS2 := hS.perm (.swap _ _ _)
  have hi : 0 < L.length := List.length_pos_iff.2 hL
  obtain ⟨cap, cur, e1, e2, hS3, e3, e4, e5, e6⟩ := sl_open hS2 hi
  have e5' : cur.size = cap := by rw [e5]; exact Nat.mul_one _
  have e6' : cur.toList.take L.length = flat byteE L := by rw [← e6]; congr 1; exact (Nat.mul_one _).symm
  have := (str0_tr E b (vb v) cap p L cur hL e3 e4 e5' e6').app B F w (by rw [← e1]; exact hS3.perm (.swap _ _ _))
  rw [← e1] at this
  exact this
theorem len_tr (E : TypeId) (b : Nat) (p : Value) (q : Option Addr) (n m : Nat) :
    Tr Tryz.prog 89 [.pointer (some ⟨b, 0, none⟩)] [blk b (bcell E p (.slice q n m))] fun r Γ => r = .int .i64 n ∧ Γ = [blk b (bcell E p (.slice q n m))] := by
  refine Tr_of_J Tryz.func89 follows rfl Tryz.ntmps89 (by simp) fun B F => ?_
  repeat' (first | refine ll ?_ | refine mv ?_ | refine asn ?_ | refine jn ?_ | refine nl ?_ | refine ld rfl ?_ | refine nc ?_ | refine f0 ?_ | refine xt2 ?_ | refine sq ?_ | refine rg ?_ | refine lnb ?_ | refine lls rfl ?_ | refine ad ?_ | refine sb ?_ | refine lss ?_ | refine eql ?_ | refine neq ?_ | refine gtr ?_ | refine geq ?_ | refine leq ?_ | refine nt ?_ | refine pen ?_ | refine pnn ?_ | refine p1 ?_ | refine p0 ?_ | refine sk2 ?_ | refine kp ?_ | refine ct ?_ | refine cf ?_ | (refine cd (fun hc => ?_) (fun hc => ?_) <;> try (exfalso; omega)) | (refine cn (fun hc => ?_) (fun hc => ?_) <;> try (exfalso; omega)) | refine bl ?_ | refine ib ?_ | refine xt ?_ | refine bx (fun b_ => ?_) | refine al (fun b_ => ?_) | refine sr rfl ?_ | refine la rfl ?_ | refine ixa rfl rfl ?_ | refine fe ?_ | refine lde rfl ?_ | refine lae rfl ?_ | refine fa ?_ | refine bld ?_ | refine mf2 ?_ | refine seq ?_ | refine sne ?_ | refine cc ?_ | refine ixb ?_ | refine slb ?_ | refine slbl ?_ | refine slbh ?_ | refine cv ?_ | refine mx ?_ | refine mn ?_ | refine ml ?_ | refine af_ ?_ | (refine gd (fun hc => ?_) (fun hc => ?_) <;> try (exfalso; omega)) | (refine gn (fun hc => ?_) (fun hc => ?_) <;> try (exfalso; omega)) | refine aw ?_ | refine pes ?_ | refine pns ?_ | refine sw ?_ | refine ng ?_ | refine aeq ?_ | refine ane ?_ | refine sli rfl ?_ | refine slil rfl ?_ | refine slih rfl ?_ | refine cb (fun hc => ?_) (fun hc => ?_) | refine gs (fun hc => ?_) (fun hc => ?_))
  refine rt ?_
  exact ⟨_, ⟨rfl, rfl⟩, _, by repeat constructor⟩
end Go.Proofs.YtaeefjcbmkiiaaaGreatDoor
