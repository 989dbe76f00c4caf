/- The disk: sync, truncate, delete; a new one. -/
import Derived.Test.YtaeefjcbmkiiaaaGreatDoorVA4
set_option linter.unusedVariables false
set_option linter.unusedSimpArgs false
namespace Go.Proofs.YtaeefjcbmkiiaaaGreatDoor
open Go Sl
attribute [local irreducible] J JR JS RO CR Arr Sat Tr sat blk
set_option linter.unusedVariables false
set_option maxHeartbeats 400000
set_option maxRecDepth 4000

theorem Tr.open_all {P : Program} {f : FuncId} {args : List Value} {Δ R : List Assn} {Q : Value → List Assn → Prop} (h : Tr P f args (Δ ++ R) Q) : Tr P f args (all Δ :: R) Q := h.pre fun B F w hS => hS.all_open
/-- A disk's two closures' boxes. -/
abbrev bx2 (d b2 b3 : Nat) (n : Nm) : List Assn := [blk b2 (.cells ⟨[.pointer (some ⟨d, 0, none⟩)]⟩ 35 (0, 0)), blk b3 (.cells ⟨[vs n]⟩ 9 (0, 0))]
theorem sync1_tr (d m b2 b3 : Nat) (D : DiskS) (n : Nm) (f : FileS) :
    Tr Tryz.prog 142 [fileE f, .pointer (some ⟨b2, 0, none⟩), .pointer (some ⟨b3, 0, none⟩)] (all (bx2 d b2 b3 n) :: [blk d (dcell m D), mp fmap m D.files])
      fun v Γ => Γ = all (bx2 d b2 b3 n) :: [blk d (dcell m D), mp fmap m (aput D.files n ⟨f.bytes, f.bytes.length⟩)] := by
  refine (Tr.shut_all' ?_).open_all
  refine Tr_of_J Tryz.func142 follows rfl Tryz.ntmps142 (by simp) fun B F => ?_
  simp only [List.cons_append, List.nil_append]
  repeat' (first | refine mpu (q := n) (xv := ⟨f.bytes, f.bytes.length⟩) rfl rfl rfl rfl ?_ | refine mv ?_ | refine asn ?_ | refine jn ?_ | refine nl ?_ | refine ld rfl ?_ | refine nc ?_ | refine f0 ?_ | refine xt2 ?_ | refine sq ?_ | refine rg ?_ | refine lnb ?_ | refine lls rfl ?_ | refine ad ?_ | refine sb ?_ | refine lss ?_ | refine eql ?_ | refine neq ?_ | refine gtr ?_ | refine geq ?_ | refine leq ?_ | refine nt ?_ | refine pen ?_ | refine pnn ?_ | refine p1 ?_ | refine p0 ?_ | refine sk2 ?_ | refine kp ?_ | refine ct ?_ | refine cf ?_ | (refine cd (fun hc => ?_) (fun hc => ?_) <;> try (exfalso; omega)) | (refine cn (fun hc => ?_) (fun hc => ?_) <;> try (exfalso; omega)) | refine bl ?_ | refine ib ?_ | refine xt ?_ | refine bx (fun b_ => ?_) | refine al (fun b_ => ?_) | refine sr rfl ?_ | refine la rfl ?_ | refine ixa rfl rfl ?_ | refine fe ?_ | refine lde rfl ?_ | refine lae rfl ?_ | refine fa ?_ | refine bld ?_ | refine mf2 ?_ | refine seq ?_ | refine sne ?_ | refine cc ?_ | refine ixb ?_ | refine slb ?_ | refine slbl ?_ | refine slbh ?_ | refine cv ?_ | refine mx ?_ | refine mn ?_ | refine ml ?_ | refine af_ ?_ | (refine gd (fun hc => ?_) (fun hc => ?_) <;> try (exfalso; omega)) | (refine gn (fun hc => ?_) (fun hc => ?_) <;> try (exfalso; omega)) | refine aw ?_ | refine pes ?_ | refine pns ?_ | refine sw ?_ | refine ng ?_ | refine aeq ?_ | refine ane ?_ | refine sli rfl ?_ | refine slil rfl ?_ | refine slih rfl ?_ | refine cb (fun hc => ?_) (fun hc => ?_) | refine gs (fun hc => ?_) (fun hc => ?_) | refine J_draw (id := 1) [(0, true, []), (1, true, []), (2, true, []), (3, true, []), (4, true, []), (5, true, []), (6, true, []), (7, true, []), (8, true, []), (9, true, []), (10, true, []), (11, false, [])] (by kernel_rfl) ?_)
  refine rte ?_
  exact ⟨_, rfl, _, by repeat constructor⟩
theorem sync_tr (d m : Nat) (D : DiskS) (h : D.Ok) (n : Nm) :
    Tr Tryz.prog 90 [.pointer (some ⟨d, 0, none⟩), vs n] [blk d (dcell m D), mp fmap m D.files]
      fun v Γ => v = .int .i64 (D.sync n).1 ∧ Γ = [blk d (dcell m (D.sync n).2), mp fmap m (D.sync n).2.files] := by
  refine Tr_of_J Tryz.func90 follows rfl Tryz.ntmps90 (by simp) fun B F => ?_
  repeat' (first | refine mv ?_ | refine asn ?_ | refine jn ?_ | refine nl ?_ | refine ld rfl ?_ | refine nc ?_ | refine f0 ?_ | refine xt2 ?_ | refine sq ?_ | refine rg ?_ | refine lnb ?_ | refine lls rfl ?_ | refine ad ?_ | refine sb ?_ | refine lss ?_ | refine eql ?_ | refine neq ?_ | refine gtr ?_ | refine geq ?_ | refine leq ?_ | refine nt ?_ | refine pen ?_ | refine pnn ?_ | refine p1 ?_ | refine p0 ?_ | refine sk2 ?_ | refine kp ?_ | refine ct ?_ | refine cf ?_ | (refine cd (fun hc => ?_) (fun hc => ?_) <;> try (exfalso; omega)) | (refine cn (fun hc => ?_) (fun hc => ?_) <;> try (exfalso; omega)) | refine bl ?_ | refine ib ?_ | refine xt ?_ | refine bx (fun b_ => ?_) | refine al (fun b_ => ?_) | refine sr rfl ?_ | refine la rfl ?_ | refine ixa rfl rfl ?_ | refine fe ?_ | refine lde rfl ?_ | refine lae rfl ?_ | refine fa ?_ | refine bld ?_ | refine mf2 ?_ | refine seq ?_ | refine sne ?_ | refine cc ?_ | refine ixb ?_ | refine slb ?_ | refine slbl ?_ | refine slbh ?_ | refine cv ?_ | refine mx ?_ | refine mn ?_ | refine ml ?_ | refine af_ ?_ | (refine gd (fun hc => ?_) (fun hc => ?_) <;> try (exfalso; omega)) | (refine gn (fun hc => ?_) (fun hc => ?_) <;> try (exfalso; omega)) | refine aw ?_ | refine pes ?_ | refine pns ?_ | refine sw ?_ | refine ng ?_ | refine aeq ?_ | refine ane ?_ | refine sli rfl ?_ | refine slil rfl ?_ | refine slih rfl ?_ | refine cb (fun hc => ?_) (fun hc => ?_) | refine gs (fun hc => ?_) (fun hc => ?_))
  rename_i b2
  refine JR_sat (Γ' := [all (bx2 d b2 b_ n), blk d (dcell m D), mp fmap m D.files]) ?_ fun w hS => Sat.all_close (hS.perm (.swap _ _ _))
  refine cl (does_tr d m D h n 95 142 [] _ _ (fun _ => 0) (fun f l => aput l n ⟨f.bytes, f.bytes.length⟩) (fun f => (fine_tr f).framed) (fun f D' _ => sync1_tr d m b2 b_ D' n f)) ?_
  rintro v Γ' ⟨rfl, rfl⟩
  refine n3 ?_
  repeat' (first | refine mv ?_ | refine asn ?_ | refine jn ?_ | refine nl ?_ | refine ld rfl ?_ | refine nc ?_ | refine f0 ?_ | refine xt2 ?_ | refine sq ?_ | refine rg ?_ | refine lnb ?_ | refine lls rfl ?_ | refine ad ?_ | refine sb ?_ | refine lss ?_ | refine eql ?_ | refine neq ?_ | refine gtr ?_ | refine geq ?_ | refine leq ?_ | refine nt ?_ | refine pen ?_ | refine pnn ?_ | refine p1 ?_ | refine p0 ?_ | refine sk2 ?_ | refine kp ?_ | refine ct ?_ | refine cf ?_ | (refine cd (fun hc => ?_) (fun hc => ?_) <;> try (exfalso; omega)) | (refine cn (fun hc => ?_) (fun hc => ?_) <;> try (exfalso; omega)) | refine bl ?_ | refine ib ?_ | refine xt ?_ | refine bx (fun b_ => ?_) | refine al (fun b_ => ?_) | refine sr rfl ?_ | refine la rfl ?_ | refine ixa rfl rfl ?_ | refine fe ?_ | refine lde rfl ?_ | refine lae rfl ?_ | refine fa ?_ | refine bld ?_ | refine mf2 ?_ | refine seq ?_ | refine sne ?_ | refine cc ?_ | refine ixb ?_ | refine slb ?_ | refine slbl ?_ | refine slbh ?_ | refine cv ?_ | refine mx ?_ | refine mn ?_ | refine ml ?_ | refine af_ ?_ | (refine gd (fun hc => ?_) (fun hc => ?_) <;> try (exfalso; omega)) | (refine gn (fun hc => ?_) (fun hc => ?_) <;> try (exfalso; omega)) | refine aw ?_ | refine pes ?_ | refine pns ?_ | refine sw ?_ | refine ng ?_ | refine aeq ?_ | refine ane ?_ | refine sli rfl ?_ | refine slil rfl ?_ | refine slih rfl ?_ | refine cb (fun hc => ?_) (fun hc => ?_) | refine gs (fun hc => ?_) (fun hc => ?_))
  refine rt ?_
  exact ⟨_, ⟨rfl, rfl⟩, _, by repeat constructor⟩
theorem delete1_tr (d m b2 b3 : Nat) (D : DiskS) (n : Nm) (f : FileS) :
    Tr Tryz.prog 96 [fileE f, .pointer (some ⟨b2, 0, none⟩), .pointer (some ⟨b3, 0, none⟩)] (all (bx2 d b2 b3 n) :: [blk d (dcell m D), mp fmap m D.files])
      fun v Γ => Γ = all (bx2 d b2 b3 n) :: [blk d (dcell m D), mp fmap m (adel D.files n)] := by
  refine (Tr.shut_all' ?_).open_all
  refine Tr_of_J Tryz.func96 follows rfl Tryz.ntmps96 (by simp) fun B F => ?_
  simp only [List.cons_append, List.nil_append]
  repeat' (first | refine mdl (q := n) rfl rfl ?_ | refine mv ?_ | refine asn ?_ | refine jn ?_ | refine nl ?_ | refine ld rfl ?_ | refine nc ?_ | refine f0 ?_ | refine xt2 ?_ | refine sq ?_ | refine rg ?_ | refine lnb ?_ | refine lls rfl ?_ | refine ad ?_ | refine sb ?_ | refine lss ?_ | refine eql ?_ | refine neq ?_ | refine gtr ?_ | refine geq ?_ | refine leq ?_ | refine nt ?_ | refine pen ?_ | refine pnn ?_ | refine p1 ?_ | refine p0 ?_ | refine sk2 ?_ | refine kp ?_ | refine ct ?_ | refine cf ?_ | (refine cd (fun hc => ?_) (fun hc => ?_) <;> try (exfalso; omega)) | (refine cn (fun hc => ?_) (fun hc => ?_) <;> try (exfalso; omega)) | refine bl ?_ | refine ib ?_ | refine xt ?_ | refine bx (fun b_ => ?_) | refine al (fun b_ => ?_) | refine sr rfl ?_ | refine la rfl ?_ | refine ixa rfl rfl ?_ | refine fe ?_ | refine lde rfl ?_ | refine lae rfl ?_ | refine fa ?_ | refine bld ?_ | refine mf2 ?_ | refine seq ?_ | refine sne ?_ | refine cc ?_ | refine ixb ?_ | refine slb ?_ | refine slbl ?_ | refine slbh ?_ | refine cv ?_ | refine mx ?_ | refine mn ?_ | refine ml ?_ | refine af_ ?_ | (refine gd (fun hc => ?_) (fun hc => ?_) <;> try (exfalso; omega)) | (refine gn (fun hc => ?_) (fun hc => ?_) <;> try (exfalso; omega)) | refine aw ?_ | refine pes ?_ | refine pns ?_ | refine sw ?_ | refine ng ?_ | refine aeq ?_ | refine ane ?_ | refine sli rfl ?_ | refine slil rfl ?_ | refine slih rfl ?_ | refine cb (fun hc => ?_) (fun hc => ?_) | refine gs (fun hc => ?_) (fun hc => ?_) | refine J_draw (id := 1) [(0, true, []), (1, true, []), (2, true, []), (3, true, []), (4, true, []), (5, false, [])] (by kernel_rfl) ?_)
  refine rte ?_
  exact ⟨_, rfl, _, by repeat constructor⟩
theorem delete_tr (d m : Nat) (D : DiskS) (h : D.Ok) (n : Nm) :
    Tr Tryz.prog 53 [.pointer (some ⟨d, 0, none⟩), vs n] [blk d (dcell m D), mp fmap m D.files]
      fun v Γ => v = .int .i64 (D.delete n).1 ∧ Γ = [blk d (dcell m (D.delete n).2), mp fmap m (D.delete n).2.files] := by
  refine Tr_of_J Tryz.func53 follows rfl Tryz.ntmps53 (by simp) fun B F => ?_
  repeat' (first | refine mv ?_ | refine asn ?_ | refine jn ?_ | refine nl ?_ | refine ld rfl ?_ | refine nc ?_ | refine f0 ?_ | refine xt2 ?_ | refine sq ?_ | refine rg ?_ | refine lnb ?_ | refine lls rfl ?_ | refine ad ?_ | refine sb ?_ | refine lss ?_ | refine eql ?_ | refine neq ?_ | refine gtr ?_ | refine geq ?_ | refine leq ?_ | refine nt ?_ | refine pen ?_ | refine pnn ?_ | refine p1 ?_ | refine p0 ?_ | refine sk2 ?_ | refine kp ?_ | refine ct ?_ | refine cf ?_ | (refine cd (fun hc => ?_) (fun hc => ?_) <;> try (exfalso; omega)) | (refine cn (fun hc => ?_) (fun hc => ?_) <;> try (exfalso; omega)) | refine bl ?_ | refine ib ?_ | refine xt ?_ | refine bx (fun b_ => ?_) | refine al (fun b_ => ?_) | refine sr rfl ?_ | refine la rfl ?_ | refine ixa rfl rfl ?_ | refine fe ?_ | refine lde rfl ?_ | refine lae rfl ?_ | refine fa ?_ | refine bld ?_ | refine mf2 ?_ | refine seq ?_ | refine sne ?_ | refine cc ?_ | refine ixb ?_ | refine slb ?_ | refine slbl ?_ | refine slbh ?_ | refine cv ?_ | refine mx ?_ | refine mn ?_ | refine ml ?_ | refine af_ ?_ | (refine gd (fun hc => ?_) (fun hc => ?_) <;> try (exfalso; omega)) | (refine gn (fun hc => ?_) (fun hc => ?_) <;> try (exfalso; omega)) | refine aw ?_ | refine pes ?_ | refine pns ?_ | refine sw ?_ | refine ng ?_ | refine aeq ?_ | refine ane ?_ | refine sli rfl ?_ | refine slil rfl ?_ | refine slih rfl ?_ | refine cb (fun hc => ?_) (fun hc => ?_) | refine gs (fun hc => ?_) (fun hc => ?_))
  rename_i b2
  refine JR_sat (Γ' := [all (bx2 d b2 b_ n), blk d (dcell m D), mp fmap m D.files]) ?_ fun w hS => Sat.all_close (hS.perm (.swap _ _ _))
  refine cl (does_tr d m D h n 95 96 [] _ _ (fun _ => 0) (fun f l => adel l n) (fun f => (fine_tr f).framed) (fun f D' _ => delete1_tr d m b2 b_ D' n f)) ?_
  rintro v Γ' ⟨rfl, rfl⟩
  refine n3 ?_
  repeat' (first | refine mv ?_ | refine asn ?_ | refine jn ?_ | refine nl ?_ | refine ld rfl ?_ | refine nc ?_ | refine f0 ?_ | refine xt2 ?_ | refine sq ?_ | refine rg ?_ | refine lnb ?_ | refine lls rfl ?_ | refine ad ?_ | refine sb ?_ | refine lss ?_ | refine eql ?_ | refine neq ?_ | refine gtr ?_ | refine geq ?_ | refine leq ?_ | refine nt ?_ | refine pen ?_ | refine pnn ?_ | refine p1 ?_ | refine p0 ?_ | refine sk2 ?_ | refine kp ?_ | refine ct ?_ | refine cf ?_ | (refine cd (fun hc => ?_) (fun hc => ?_) <;> try (exfalso; omega)) | (refine cn (fun hc => ?_) (fun hc => ?_) <;> try (exfalso; omega)) | refine bl ?_ | refine ib ?_ | refine xt ?_ | refine bx (fun b_ => ?_) | refine al (fun b_ => ?_) | refine sr rfl ?_ | refine la rfl ?_ | refine ixa rfl rfl ?_ | refine fe ?_ | refine lde rfl ?_ | refine lae rfl ?_ | refine fa ?_ | refine bld ?_ | refine mf2 ?_ | refine seq ?_ | refine sne ?_ | refine cc ?_ | refine ixb ?_ | refine slb ?_ | refine slbl ?_ | refine slbh ?_ | refine cv ?_ | refine mx ?_ | refine mn ?_ | refine ml ?_ | refine af_ ?_ | (refine gd (fun hc => ?_) (fun hc => ?_) <;> try (exfalso; omega)) | (refine gn (fun hc => ?_) (fun hc => ?_) <;> try (exfalso; omega)) | refine aw ?_ | refine pes ?_ | refine pns ?_ | refine sw ?_ | refine ng ?_ | refine aeq ?_ | refine ane ?_ | refine sli rfl ?_ | refine slil rfl ?_ | refine slih rfl ?_ | refine cb (fun hc => ?_) (fun hc => ?_) | refine gs (fun hc => ?_) (fun hc => ?_))
  refine rt ?_
  exact ⟨_, ⟨rfl, rfl⟩, _, by repeat constructor⟩
theorem new_tr (most : Int) (h0 : 0 ≤ most) (h1 : most ≤ 10000000) :
    Tr Tryz.prog 33 [.int .i64 most] [] fun v Γ => ∃ d m, v = .tuple #[.pointer (some ⟨d, 0, none⟩), .int .i64 0] ∧ Γ = [blk d (dcell m (DiskS.new most)), mp fmap m (DiskS.new most).files] := by
  refine Tr_of_J Tryz.func33 follows rfl Tryz.ntmps33 (by simp) fun B F => ?_
  repeat' (first | refine mkm fmap (fun m => ?_) | refine mv ?_ | refine asn ?_ | refine jn ?_ | refine nl ?_ | refine ld rfl ?_ | refine nc ?_ | refine f0 ?_ | refine xt2 ?_ | refine sq ?_ | refine rg ?_ | refine lnb ?_ | refine lls rfl ?_ | refine ad ?_ | refine sb ?_ | refine lss ?_ | refine eql ?_ | refine neq ?_ | refine gtr ?_ | refine geq ?_ | refine leq ?_ | refine nt ?_ | refine pen ?_ | refine pnn ?_ | refine p1 ?_ | refine p0 ?_ | refine sk2 ?_ | refine kp ?_ | refine ct ?_ | refine cf ?_ | (refine cd (fun hc => ?_) (fun hc => ?_) <;> try (exfalso; omega)) | (refine cn (fun hc => ?_) (fun hc => ?_) <;> try (exfalso; omega)) | refine bl ?_ | refine ib ?_ | refine xt ?_ | refine bx (fun b_ => ?_) | refine al (fun b_ => ?_) | refine sr rfl ?_ | refine la rfl ?_ | refine ixa rfl rfl ?_ | refine fe ?_ | refine lde rfl ?_ | refine lae rfl ?_ | refine fa ?_ | refine bld ?_ | refine mf2 ?_ | refine seq ?_ | refine sne ?_ | refine cc ?_ | refine ixb ?_ | refine slb ?_ | refine slbl ?_ | refine slbh ?_ | refine cv ?_ | refine mx ?_ | refine mn ?_ | refine ml ?_ | refine af_ ?_ | (refine gd (fun hc => ?_) (fun hc => ?_) <;> try (exfalso; omega)) | (refine gn (fun hc => ?_) (fun hc => ?_) <;> try (exfalso; omega)) | refine aw ?_ | refine pes ?_ | refine pns ?_ | refine sw ?_ | refine ng ?_ | refine aeq ?_ | refine ane ?_ | refine sli rfl ?_ | refine slil rfl ?_ | refine slih rfl ?_ | refine cb (fun hc => ?_) (fun hc => ?_) | refine gs (fun hc => ?_) (fun hc => ?_))
  refine rt ?_
  exact ⟨_, ⟨_, _, rfl, rfl⟩, _, by repeat constructor⟩
end Go.Proofs.YtaeefjcbmkiiaaaGreatDoor
/- The log's small functions, walked. -/
namespace Go.Proofs.YtaeefjcbmkiiaaaGreatDoor
open Go Sl
attribute [local irreducible] J JR JS RO CR Arr Sat Tr sat blk
set_option linter.unusedVariables false
set_option maxHeartbeats 400000
set_option maxRecDepth 4000

def entE : EncT Ent where
  enc e := [.int .i64 e.index, .int .i64 e.term, .int .i64 e.kind, vs e.data]
  dec := fun l => match l with | [.int _ a, .int _ b, .int _ c, .string s] => ⟨a, b, c, s.data.toList⟩ | _ => ⟨0, 0, 0, []⟩
  sz := 4
  dflt := ⟨0, 0, 0, []⟩
  len _ := rfl
  ok _ := rfl
  pos := by decide
def segE : EncT Seg where
  enc s := [.int .i64 s.number, .int .i64 s.size, .int .i64 s.top]
  dec := fun l => match l with | [.int _ a, .int _ b, .int _ c] => ⟨a, b, c⟩ | _ => ⟨0, 0, 0⟩
  sz := 3
  dflt := ⟨0, 0, 0⟩
  len _ := rfl
  ok _ := rfl
  pos := by decide
instance : TEnc 70 entE := ⟨trivial⟩
instance : TEnc 94 segE := ⟨trivial⟩
abbrev entV (e : Ent) : Value := .agg ⟨[.int .i64 e.index, .int .i64 e.term, .int .i64 e.kind, vs e.data]⟩
abbrev segV (s : Seg) : Value := .agg ⟨[.int .i64 s.number, .int .i64 s.size, .int .i64 s.top]⟩
abbrev hrdV (h : Hrd) : Value := .agg ⟨[.int .i64 h.term, .int .i64 h.vote]⟩
/-- A log's own block. -/
abbrev lcell (d : Nat) (h : Hrd) (ev sv : Value) : Obj := .cells ⟨[.pointer (some ⟨d, 0, none⟩), .int .i64 h.term, .int .i64 h.vote, ev, sv]⟩ 92 (0, 0)

theorem right_tr (e : Ent) : Tr Tryz.prog 57 [entV e] [] fun v Γ => v = .bool e.right ∧ Γ = [] := by
  refine Tr_of_J Tryz.func57 follows rfl Tryz.ntmps57 (by simp) fun B F => ?_
  repeat' (first | refine mv ?_ | refine asn ?_ | refine jn ?_ | refine nl ?_ | refine ld rfl ?_ | refine nc ?_ | refine f0 ?_ | refine xt2 ?_ | refine sq ?_ | refine rg ?_ | refine lnb ?_ | refine lls rfl ?_ | refine ad ?_ | refine sb ?_ | refine lss ?_ | refine eql ?_ | refine neq ?_ | refine gtr ?_ | refine geq ?_ | refine leq ?_ | refine nt ?_ | refine pen ?_ | refine pnn ?_ | refine p1 ?_ | refine p0 ?_ | refine sk2 ?_ | refine kp ?_ | refine ct ?_ | refine cf ?_ | (refine cd (fun hc => ?_) (fun hc => ?_) <;> try (exfalso; omega)) | (refine cn (fun hc => ?_) (fun hc => ?_) <;> try (exfalso; omega)) | refine bl ?_ | refine ib ?_ | refine xt ?_ | refine bx (fun b_ => ?_) | refine al (fun b_ => ?_) | refine sr rfl ?_ | refine la rfl ?_ | refine ixa rfl rfl ?_ | refine fe ?_ | refine lde rfl ?_ | refine lae rfl ?_ | refine fa ?_ | refine bld ?_ | refine mf2 ?_ | refine seq ?_ | refine sne ?_ | refine cc ?_ | refine ixb ?_ | refine slb ?_ | refine slbl ?_ | refine slbh ?_ | refine cv ?_ | refine mx ?_ | refine mn ?_ | refine ml ?_ | refine af_ ?_ | (refine gd (fun hc => ?_) (fun hc => ?_) <;> try (exfalso; omega)) | (refine gn (fun hc => ?_) (fun hc => ?_) <;> try (exfalso; omega)) | refine aw ?_ | refine pes ?_ | refine pns ?_ | refine sw ?_ | refine ng ?_ | refine aeq ?_ | refine ane ?_ | refine sli rfl ?_ | refine slil rfl ?_ | refine slih rfl ?_ | refine cb (fun hc => ?_) (fun hc => ?_) | refine gs (fun hc => ?_) (fun hc => ?_))
  all_goals refine rt ?_
  all_goals refine ⟨_, ⟨?_, rfl⟩, _, by repeat constructor⟩
  all_goals (simp_all [Ent.right, tupleOf]; try (intros; omega))
theorem dec_len (n : Nat) (h : n < 100) : (Lib.decDigits n).length ≤ 2 := by
  unfold Lib.decDigits
  split
  · exact Nat.le_succ _
  · rw [List.length_append]
    unfold Lib.decDigits
    rw [dif_pos (by omega)]; exact Nat.le_refl _
theorem segName_tr (s : Seg) (h0 : 0 ≤ s.number) (h1 : s.number < 100) : Tr Tryz.prog 43 [segV s] [] fun v Γ => v = vs (segName s.number.toNat) ∧ Γ = [] := by
  obtain ⟨num, size, top⟩ := s
  dsimp only at h0 h1
  obtain ⟨n, rfl⟩ : ∃ n : Nat, num = n := ⟨num.toNat, by omega⟩
  have hd : (Lib.decDigits n).length ≤ 2 := dec_len n (by omega)
  refine Tr_of_J Tryz.func43 follows rfl Tryz.ntmps43 (by simp) fun B F => ?_
  repeat' (first | (refine cl (itoa_tr n (by omega)) ?_; rintro v Γ' ⟨rfl, rfl⟩; refine n0 ?_) | refine cc (a := [119]) ?_ rfl rfl (by simp; omega) | refine mv ?_ | refine asn ?_ | refine jn ?_ | refine nl ?_ | refine ld rfl ?_ | refine nc ?_ | refine f0 ?_ | refine xt2 ?_ | refine sq ?_ | refine rg ?_ | refine lnb ?_ | refine lls rfl ?_ | refine ad ?_ | refine sb ?_ | refine lss ?_ | refine eql ?_ | refine neq ?_ | refine gtr ?_ | refine geq ?_ | refine leq ?_ | refine nt ?_ | refine pen ?_ | refine pnn ?_ | refine p1 ?_ | refine p0 ?_ | refine sk2 ?_ | refine kp ?_ | refine ct ?_ | refine cf ?_ | (refine cd (fun hc => ?_) (fun hc => ?_) <;> try (exfalso; omega)) | (refine cn (fun hc => ?_) (fun hc => ?_) <;> try (exfalso; omega)) | refine bl ?_ | refine ib ?_ | refine xt ?_ | refine bx (fun b_ => ?_) | refine al (fun b_ => ?_) | refine sr rfl ?_ | refine la rfl ?_ | refine ixa rfl rfl ?_ | refine fe ?_ | refine lde rfl ?_ | refine lae rfl ?_ | refine fa ?_ | refine bld ?_ | refine mf2 ?_ | refine seq ?_ | refine sne ?_ | refine cc ?_ | refine ixb ?_ | refine slb ?_ | refine slbl ?_ | refine slbh ?_ | refine cv ?_ | refine mx ?_ | refine mn ?_ | refine ml ?_ | refine af_ ?_ | (refine gd (fun hc => ?_) (fun hc => ?_) <;> try (exfalso; omega)) | (refine gn (fun hc => ?_) (fun hc => ?_) <;> try (exfalso; omega)) | refine aw ?_ | refine pes ?_ | refine pns ?_ | refine sw ?_ | refine ng ?_ | refine aeq ?_ | refine ane ?_ | refine sli rfl ?_ | refine slil rfl ?_ | refine slih rfl ?_ | refine cb (fun hc => ?_) (fun hc => ?_) | refine gs (fun hc => ?_) (fun hc => ?_))
  refine rt ?_
  exact ⟨_, ⟨rfl, rfl⟩, _, by repeat constructor⟩
theorem hardText_tr (h : Hrd) (hi : h.In) : Tr Tryz.prog 84 [hrdV h] [] fun v Γ => v = vs (hardText h) ∧ Γ = [] := by
  have hr : ∀ n ∈ [1, h.term, h.vote], -9223372036854775808 ≤ n ∧ n ≤ 9223372036854775807 := by
    intro n hn
    simp only [List.mem_cons, List.not_mem_nil, or_false] at hn
    rcases hn with rfl | rfl | rfl
    · decide
    · exact hi.t
    · exact hi.v
  refine Tr_of_J Tryz.func84 follows rfl Tryz.ntmps84 (by simp) fun B F => ?_
  repeat' (first | refine bsl (e := intE) (X := [1, h.term, h.vote]) (fun v2 => ?_) (.cona rfl rfl (.cona rfl rfl (.cona rfl rfl .nil))) | (refine cl (Int_tr v2 [1, h.term, h.vote] (by simp) hr (by simp)) ?_; rintro v Γ' ⟨rfl, rfl⟩; refine n1 ?_) | refine mv ?_ | refine asn ?_ | refine jn ?_ | refine nl ?_ | refine ld rfl ?_ | refine nc ?_ | refine f0 ?_ | refine xt2 ?_ | refine sq ?_ | refine rg ?_ | refine lnb ?_ | refine lls rfl ?_ | refine ad ?_ | refine sb ?_ | refine lss ?_ | refine eql ?_ | refine neq ?_ | refine gtr ?_ | refine geq ?_ | refine leq ?_ | refine nt ?_ | refine pen ?_ | refine pnn ?_ | refine p1 ?_ | refine p0 ?_ | refine sk2 ?_ | refine kp ?_ | refine ct ?_ | refine cf ?_ | (refine cd (fun hc => ?_) (fun hc => ?_) <;> try (exfalso; omega)) | (refine cn (fun hc => ?_) (fun hc => ?_) <;> try (exfalso; omega)) | refine bl ?_ | refine ib ?_ | refine xt ?_ | refine bx (fun b_ => ?_) | refine al (fun b_ => ?_) | refine sr rfl ?_ | refine la rfl ?_ | refine ixa rfl rfl ?_ | refine fe ?_ | refine lde rfl ?_ | refine lae rfl ?_ | refine fa ?_ | refine bld ?_ | refine mf2 ?_ | refine seq ?_ | refine sne ?_ | refine cc ?_ | refine ixb ?_ | refine slb ?_ | refine slbl ?_ | refine slbh ?_ | refine cv ?_ | refine mx ?_ | refine mn ?_ | refine ml ?_ | refine af_ ?_ | (refine gd (fun hc => ?_) (fun hc => ?_) <;> try (exfalso; omega)) | (refine gn (fun hc => ?_) (fun hc => ?_) <;> try (exfalso; omega)) | refine aw ?_ | refine pes ?_ | refine pns ?_ | refine sw ?_ | refine ng ?_ | refine aeq ?_ | refine ane ?_ | refine sli rfl ?_ | refine slil rfl ?_ | refine slih rfl ?_ | refine cb (fun hc => ?_) (fun hc => ?_) | refine gs (fun hc => ?_) (fun hc => ?_))
  refine rt ?_
  exact ⟨_, ⟨rfl, rfl⟩, _, by repeat constructor⟩
theorem entText_tr (e : Ent) (hi : e.In) (hd : e.data.length ≤ 1000000) : Tr Tryz.prog 58 [entV e] [] fun v Γ => v = vs (entText e) ∧ Γ = [] := by
  have hr : ∀ n ∈ [2, e.index, e.term, e.kind], -9223372036854775808 ≤ n ∧ n ≤ 9223372036854775807 := by
    intro n hn
    simp only [List.mem_cons, List.not_mem_nil, or_false] at hn
    rcases hn with rfl | rfl | rfl | rfl
    · decide
    · exact hi.i
    · exact hi.t
    · exact hi.k
  have hr2 : ∀ s ∈ [e.data], s.length ≤ 1000000 := by
    intro s hs
    rw [List.mem_singleton.1 hs]; exact hd
  have l1 : (encInts [2, e.index, e.term, e.kind]).length + (encTexts [e.data]).length ≤ 9223372036854775807 := by
    have h2 := (encInt_length (n := 2) (by decide) (by decide)).2
    have h3 := (encInt_length hi.i.1 hi.i.2).2
    have h4 := (encInt_length hi.t.1 hi.t.2).2
    have h5 := (encInt_length hi.k.1 hi.k.2).2
    have h6 := (encInt_length (n := e.data.length) (by omega) (by omega)).2
    simp only [encInts, encTexts, encText, List.flatMap_cons, List.flatMap_nil, List.length_append, List.append_nil]
    omega
  refine Tr_of_J Tryz.func58 follows rfl Tryz.ntmps58 (by simp) fun B F => ?_
  repeat' (first | refine bsl (e := intE) (X := [2, e.index, e.term, e.kind]) (fun v2 => ?_) (.cona rfl rfl (.cona rfl rfl (.cona rfl rfl (.cona rfl rfl .nil)))) | (refine cl (Int_tr v2 [2, e.index, e.term, e.kind] (by simp) hr (by simp)) ?_; rintro v Γ' ⟨rfl, rfl⟩; refine n1 ?_) | refine bsl (e := strE) (X := [e.data]) (fun v3 => ?_) (.cona rfl rfl .nil) | (refine cl (Text_tr v3 [e.data] (by simp) hr2 (by simp)) ?_; rintro v Γ' ⟨rfl, rfl⟩; refine n1 ?_) | refine cc ?_ rfl rfl l1 | refine mv ?_ | refine asn ?_ | refine jn ?_ | refine nl ?_ | refine ld rfl ?_ | refine nc ?_ | refine f0 ?_ | refine xt2 ?_ | refine sq ?_ | refine rg ?_ | refine lnb ?_ | refine lls rfl ?_ | refine ad ?_ | refine sb ?_ | refine lss ?_ | refine eql ?_ | refine neq ?_ | refine gtr ?_ | refine geq ?_ | refine leq ?_ | refine nt ?_ | refine pen ?_ | refine pnn ?_ | refine p1 ?_ | refine p0 ?_ | refine sk2 ?_ | refine kp ?_ | refine ct ?_ | refine cf ?_ | (refine cd (fun hc => ?_) (fun hc => ?_) <;> try (exfalso; omega)) | (refine cn (fun hc => ?_) (fun hc => ?_) <;> try (exfalso; omega)) | refine bl ?_ | refine ib ?_ | refine xt ?_ | refine bx (fun b_ => ?_) | refine al (fun b_ => ?_) | refine sr rfl ?_ | refine la rfl ?_ | refine ixa rfl rfl ?_ | refine fe ?_ | refine lde rfl ?_ | refine lae rfl ?_ | refine fa ?_ | refine bld ?_ | refine mf2 ?_ | refine seq ?_ | refine sne ?_ | refine cc ?_ | refine ixb ?_ | refine slb ?_ | refine slbl ?_ | refine slbh ?_ | refine cv ?_ | refine mx ?_ | refine mn ?_ | refine ml ?_ | refine af_ ?_ | (refine gd (fun hc => ?_) (fun hc => ?_) <;> try (exfalso; omega)) | (refine gn (fun hc => ?_) (fun hc => ?_) <;> try (exfalso; omega)) | refine aw ?_ | refine pes ?_ | refine pns ?_ | refine sw ?_ | refine ng ?_ | refine aeq ?_ | refine ane ?_ | refine sli rfl ?_ | refine slil rfl ?_ | refine slih rfl ?_ | refine cb (fun hc => ?_) (fun hc => ?_) | refine gs (fun hc => ?_) (fun hc => ?_) | refine J_draw3 (id := 1) [(0, true, []), (1, true, []), (2, true, []), (3, true, []), (4, true, []), (5, true, []), (8, true, []), (9, true, []), (6, false, [8, 9]), (7, false, [8, 9]), (10, false, [0, 1, 2, 3, 4, 5]), (11, false, []), (12, true, []), (13, true, [])] [(0, true, []), (1, true, []), (2, true, []), (3, true, []), (4, true, []), (5, true, []), (8, true, []), (9, true, []), (6, false, [8, 9]), (10, false, [0, 1, 2, 3, 4, 5]), (7, false, [8, 9]), (11, false, []), (12, true, []), (13, true, [])] [(0, true, []), (1, true, []), (2, true, []), (3, true, []), (4, true, []), (5, true, []), (8, true, []), (9, true, []), (10, false, [0, 1, 2, 3, 4, 5]), (6, false, [8, 9]), (7, false, [8, 9]), (11, false, []), (12, true, []), (13, true, [])] (by kernel_rfl) ?_ ?_ ?_ | refine JS_cons rfl rfl (RO_move rfl) ?_ | refine JS_cons rfl rfl (RO_nilCheck rfl) ?_ | refine JS_cons rfl rfl (RO_fieldAddr0 rfl) ?_ | refine JS_cons rfl rfl (RO_load rfl (by rfl)) ?_ | refine JS_off rfl ?_ | refine JS_cons rfl rfl (RO_extract rfl rfl) ?_ | refine JS_cons rfl rfl (RO_not rfl) ?_ | refine JS_cons rfl rfl (RO_fieldAddr rfl) ?_ | refine JS_cons rfl rfl (RO_lnb rfl) ?_ | refine JS_cons rfl rfl (RO_lls rfl) ?_ | refine JS_cons rfl rfl (RO_add_in rfl rfl (by omega)) ?_ | refine JS_cons rfl rfl (RO_sub_in rfl rfl (by omega)) ?_ | refine JS_cons rfl rfl (RO_ixa rfl rfl (by omega)) ?_ | refine JS_cons rfl rfl (RO_fe rfl) ?_ | refine JS_cons rfl rfl (RO_lde rfl (by omega) rfl) ?_ | refine JS_cons rfl rfl (RO_slih rfl rfl (by omega)) ?_ | refine JS_cons rfl rfl (RO_slil rfl rfl (by omega)) ?_ | refine JS_offu rfl ?_ | refine JS_cons rfl rfl (RO_cc rfl rfl (by omega)) ?_ | refine JS_cons rfl rfl (RO_bld rfl (by (repeat (first | exact FillS.nil | (apply FillS.cons; rfl; rfl; constructor; rfl; (focus repeat constructor)))))) ?_ | refine JS_cons rfl rfl (RO_lae rfl (by omega) (by repeat constructor)) ?_ | refine JS_cons rfl rfl (RO_loadAgg rfl (by repeat constructor)) ?_)
  all_goals refine rt ?_
  all_goals exact ⟨_, ⟨rfl, rfl⟩, _, by repeat constructor⟩
end Go.Proofs.YtaeefjcbmkiiaaaGreatDoor
/- The names of a map's files, sorted; numbers sorted; is a name among some. -/
namespace Go.Proofs.YtaeefjcbmkiiaaaGreatDoor
open Go Go.RowKit Go.Maps Go.Sort Go.Shelf Sl
set_option linter.unusedVariables false
set_option maxHeartbeats 400000

abbrev leN : Nm → Nm → Bool := fun x y => decide (x ≤ y)
def sortN (l : List Nm) : List Nm := l.mergeSort leN
theorem sorts76 (m : Nat) : AnyZ.SortsIn Tryz.prog Tryz.sorted76_ren Fence.wide m :=
  ⟨fun blk off cap ss W hH hblk hsz => callsIn_wide.2 (AnyM.slices_Sort_string Tryz.sort114 blk off cap ss W hH hblk hsz),
   fun p cap W => callsIn_wide.2 (AnyM.slices_Sort_string_none Tryz.sort114 p cap W)⟩
def rd0 : Value → Option (DataW Unit × List MemPlace) := fun _ => some (.nil, [])
theorem ownsRow_sl {B w w' : World} {F : Assn} {Γ : List Assn} {v : Value} {l : List Nm} {E : TypeId} {n : Nat} (hS : Sat B F Γ w) (hb : Below w.heap.size w w') (h : w'.ownsRow w.heap.size E 1 v n (l.map encStr)) (hn : n = l.length) (hnil : v = .slice none 0 0 ↔ l = []) : Sat B F (sl E strE v l :: Γ) w' := by
  subst hn
  rcases h.2 with ⟨h1, h2⟩ | ⟨g, cap, cur, h1, h2, h3, h4, h5, h6, h7⟩
  · have hl : l = [] := List.length_eq_zero_iff.1 h2
    subst hl
    rw [hnil.2 rfl]
    exact sl_nil (hS.below hb)
  · subst h1
    refine sl_close (e := strE) (L := l) (hS.fresh hb h2 h3) h4 h5 h6 ?_
    have : flat strE l = l.map encStr := by
      clear h3 h4 h6 h7 hnil h
      induction l with
      | nil => rfl
      | cons x l ih => rw [flat_cons, ih]; rfl
    rw [this]; exact h7
theorem sorted_tr (b m : Nat) (l : List (Nm × FileS)) (hnd : (l.map (·.1)).Nodup) (hl : l.length ≤ 1000) (hk : ∀ p ∈ l, p.1.length ≤ 1000000) :
    Tr Tryz.prog 76 [.func (.func 115) #[] ⟨[.pointer (some ⟨b, 0, none⟩)]⟩] [blk b (.cells ⟨[.map (some m)]⟩ 84 (0, 0)), mp fmap m l]
      fun v Γ => Γ = [sl 9 strE v (sortN (l.map (·.1))), blk b (.cells ⟨[.map (some m)]⟩ 84 (0, 0)), mp fmap m l] := by
  refine Tr.intro fun B F w hS => ?_
  have hbk := (hS.blk .here).2
  obtain ⟨es, clock, hi, hS2⟩ := mp_open (hS.perm (.swap _ _ _))
  have hmb := (hS2.blk .here).2
  have hblt : b < w.heap.size := (Array.getElem?_eq_some_iff.1 hbk).1
  have hlen : es.size = l.length := by have := congrArg List.length hi.kv; simpa using this
  have hkey : ∀ x ∈ es.toList, ∃ p ∈ l, x.key = vs p.1 := fun x hx => by
    have : ekv x ∈ l.map (mkv fmap) := by rw [← hi.kv]; exact List.mem_map.2 ⟨x, hx, rfl⟩
    obtain ⟨p, hp, he⟩ := List.mem_map.1 this
    exact ⟨p, hp, (congrArg Prod.fst he).symm⟩
  have hkeys : es.toList.map (·.key) = (l.map (·.1)).map vs := by
    have := congrArg (List.map Prod.fst) hi.kv
    rw [List.map_map, List.map_map] at this
    rw [List.map_map]
    exact this
  have hrd : ∀ x ∈ es.toList, ∀ p, x.key = vs p → p.length ≤ 1000000 → WideElems.rd (H := Unit) Tryz.prog 9 rd0 x = some (.string p, .nil) := fun x hx p hp hpl => by
    unfold WideElems.rd
    rw [hp, WideMaps.keyOf_string_mk (P := Tryz.prog) (k := 9) (by kernel_rfl) (by rw [bs_size]; unfold maxLen; omega)]
    simp [rd0]
  have hfit : WideElems.Fit (H := Unit) Tryz.prog 9 rd0 es clock := by
    refine ⟨by rw [hlen]; unfold maxLen; omega, ⟨hi.lt, hi.nd, ?_⟩, fun x hx => ?_⟩
    · rw [hkeys]
      exact List.pairwise_map.2 (List.Pairwise.imp (fun h e => h (bs_inj.1 (Value.string.inj e))) hnd)
    · obtain ⟨p, hp, he⟩ := hkey x hx
      exact ⟨_, hrd x hx p.1 he (hk p hp)⟩
  have hrg : es.toList.map (WideElems.rg (H := Unit) Tryz.prog 9 rd0) = (l.map (·.1)).map fun n => (Lit.string n, DataW.nil) := by
    have h1 : ∀ (L : List MapEntry) (K : List (Nm × FileS)), (∀ x ∈ L, ∀ p, x.key = vs p → p.length ≤ 1000000 → WideElems.rd (H := Unit) Tryz.prog 9 rd0 x = some (.string p, .nil)) → (∀ p ∈ K, p.1.length ≤ 1000000) → L.map (·.key) = (K.map (·.1)).map vs → L.map (WideElems.rg (H := Unit) Tryz.prog 9 rd0) = (K.map (·.1)).map fun n => (Lit.string n, DataW.nil) := by
      intro L
      induction L with
      | nil => intro K _ _ h; cases K with | nil => rfl | cons _ _ => cases h
      | cons x L ih =>
        intro K hr hK h
        cases K with
        | nil => cases h
        | cons p K =>
          simp only [List.map_cons, List.cons.injEq] at h ⊢
          exact ⟨WideElems.rg_of (hr x (List.mem_cons_self ..) p.1 h.1 (hK p (List.mem_cons_self ..))), ih K (fun y hy => hr y (List.mem_cons_of_mem _ hy)) (fun q hq => hK q (List.mem_cons_of_mem _ hq)) h.2⟩
    exact h1 _ _ hrd hk hkeys
  let D0 : DataW Unit := .map ((es.toList.map (WideElems.rg (H := Unit) Tryz.prog 9 rd0)).foldr DataW.insert [])
  have hown : w.ownsMap Tryz.prog 9 rd0 m es.size D0 := ⟨es, clock, hmb, hfit, Nat.le_refl _, rfl⟩
  have hsz : Maps.size D0 = l.length := by
    show (List.foldr DataW.insert [] _).length = _
    rw [length_sorted, List.length_map, Array.length_toList, hlen]
  have hperm : (strKeys D0).Perm (l.map (·.1)) := by
    show (List.map _ (List.foldr DataW.insert [] _)).Perm _
    refine ((WideShapes.sorted_perm _).map _).trans ?_
    rw [hrg, List.map_map]
    exact List.Perm.of_eq (by simp only [List.map_map]; rfl)
  have hseq := AnyZ.keys_gives (ρ := Tryz.keys77_ren) { Tryz.keys77 with } Fence.wide 2 trivial rfl (by omega) b m es.size D0 (R := rd0) w hblt (cell_of hbk rfl) hown
  have hc := AnyZ.sorted_in Tryz.sorted76 Fence.wide 5 trivial trivial trivial trivial rfl (by omega) (sorts76 _) (enters_of Tryz.func114 (by kernel_rfl) rfl) 115 #[.pointer (some ⟨b, 0, none⟩)] trivial (enters_of Tryz.func115 (by kernel_rfl) rfl) _ (Maps.size D0) (by rw [hsz]; unfold maxLen; omega) (by rw [hsz]; omega) w hseq
  refine ((callsIn_wide (n := 5)).1 hc).mono ?_
  rintro e w' ⟨v, ss, rfl, hS', hrow, hnil, hb⟩
  have hsort : ss.mergeSort leN = sortN (l.map (·.1)) := by
    exact mergeSort_of_perm (hS'.trans hperm)
  refine ⟨v, _, rfl, rfl, ?_⟩
  rw [← hsort]
  have hnil2 : v = .slice none 0 0 ↔ ss.mergeSort leN = [] := by
    rw [hnil]
    constructor
    · rintro rfl; simp
    · intro h
      have := congrArg List.length h
      rw [List.length_mergeSort] at this
      exact List.length_eq_zero_iff.1 this
  exact ownsRow_sl hS hb hrow (by simp) hnil2
end Go.Proofs.YtaeefjcbmkiiaaaGreatDoor
/- The disk: its list of names. -/
namespace Go.Proofs.YtaeefjcbmkiiaaaGreatDoor
open Go Sl
attribute [local irreducible] J JR JS RO CR Arr Sat Tr sat blk
set_option linter.unusedVariables false
set_option maxHeartbeats 400000
set_option maxRecDepth 4000
theorem keys_tr (m : Nat) : Tr Tryz.prog 77 [.map (some m)] [] fun v Γ => ∃ b, v = .func (.func 115) ⟨[]⟩ ⟨[.pointer (some ⟨b, 0, none⟩)]⟩ ∧ Γ = [blk b (.cells ⟨[.map (some m)]⟩ 84 (0, 0))] := by
  refine Tr_of_J Tryz.func77 follows rfl Tryz.ntmps77 (by simp) fun B F => ?_
  repeat' (first | refine mv ?_ | refine asn ?_ | refine jn ?_ | refine nl ?_ | refine ld rfl ?_ | refine nc ?_ | refine f0 ?_ | refine xt2 ?_ | refine sq ?_ | refine rg ?_ | refine lnb ?_ | refine lls rfl ?_ | refine ad ?_ | refine sb ?_ | refine lss ?_ | refine eql ?_ | refine neq ?_ | refine gtr ?_ | refine geq ?_ | refine leq ?_ | refine nt ?_ | refine pen ?_ | refine pnn ?_ | refine p1 ?_ | refine p0 ?_ | refine sk2 ?_ | refine kp ?_ | refine ct ?_ | refine cf ?_ | (refine cd (fun hc => ?_) (fun hc => ?_) <;> try (exfalso; omega)) | (refine cn (fun hc => ?_) (fun hc => ?_) <;> try (exfalso; omega)) | refine bl ?_ | refine ib ?_ | refine xt ?_ | refine bx (fun b_ => ?_) | refine al (fun b_ => ?_) | refine sr rfl ?_ | refine la rfl ?_ | refine ixa rfl rfl ?_ | refine fe ?_ | refine lde rfl ?_ | refine lae rfl ?_ | refine fa ?_ | refine bld ?_ | refine mf2 ?_ | refine seq ?_ | refine sne ?_ | refine cc ?_ | refine ixb ?_ | refine slb ?_ | refine slbl ?_ | refine slbh ?_ | refine cv ?_ | refine mx ?_ | refine mn ?_ | refine ml ?_ | refine af_ ?_ | (refine gd (fun hc => ?_) (fun hc => ?_) <;> try (exfalso; omega)) | (refine gn (fun hc => ?_) (fun hc => ?_) <;> try (exfalso; omega)) | refine aw ?_ | refine pes ?_ | refine pns ?_ | refine sw ?_ | refine ng ?_ | refine aeq ?_ | refine ane ?_ | refine sli rfl ?_ | refine slil rfl ?_ | refine slih rfl ?_ | refine cb (fun hc => ?_) (fun hc => ?_) | refine gs (fun hc => ?_) (fun hc => ?_))
  refine rt ?_
  exact ⟨_, ⟨_, rfl, rfl⟩, _, by repeat constructor⟩
theorem list_tr (d m : Nat) (D : DiskS) (h : D.Ok) : Tr Tryz.prog 45 [.pointer (some ⟨d, 0, none⟩)] [blk d (dcell m D), mp fmap m D.files]
    fun v Γ => Γ = [sl 9 strE v (sortN (D.files.map (·.1))), blk d (dcell m D), mp fmap m D.files] := by
  refine Tr_of_J Tryz.func45 follows rfl Tryz.ntmps45 (by simp) fun B F => ?_
  repeat' (first | (refine cl (keys_tr m) ?_; rintro v Γ' ⟨b, rfl, rfl⟩; refine n1 ?_) | (refine cl (sorted_tr b m D.files h.nd (Nat.le_trans h.ct (by decide)) (fun p hp => Nat.le_trans (h.nm p hp) (by decide))) ?_; rintro v Γ' rfl; refine n3 ?_) | refine mv ?_ | refine asn ?_ | refine jn ?_ | refine nl ?_ | refine ld rfl ?_ | refine nc ?_ | refine f0 ?_ | refine xt2 ?_ | refine sq ?_ | refine rg ?_ | refine lnb ?_ | refine lls rfl ?_ | refine ad ?_ | refine sb ?_ | refine lss ?_ | refine eql ?_ | refine neq ?_ | refine gtr ?_ | refine geq ?_ | refine leq ?_ | refine nt ?_ | refine pen ?_ | refine pnn ?_ | refine p1 ?_ | refine p0 ?_ | refine sk2 ?_ | refine kp ?_ | refine ct ?_ | refine cf ?_ | (refine cd (fun hc => ?_) (fun hc => ?_) <;> try (exfalso; omega)) | (refine cn (fun hc => ?_) (fun hc => ?_) <;> try (exfalso; omega)) | refine bl ?_ | refine ib ?_ | refine xt ?_ | refine bx (fun b_ => ?_) | refine al (fun b_ => ?_) | refine sr rfl ?_ | refine la rfl ?_ | refine ixa rfl rfl ?_ | refine fe ?_ | refine lde rfl ?_ | refine lae rfl ?_ | refine fa ?_ | refine bld ?_ | refine mf2 ?_ | refine seq ?_ | refine sne ?_ | refine cc ?_ | refine ixb ?_ | refine slb ?_ | refine slbl ?_ | refine slbh ?_ | refine cv ?_ | refine mx ?_ | refine mn ?_ | refine ml ?_ | refine af_ ?_ | (refine gd (fun hc => ?_) (fun hc => ?_) <;> try (exfalso; omega)) | (refine gn (fun hc => ?_) (fun hc => ?_) <;> try (exfalso; omega)) | refine aw ?_ | refine pes ?_ | refine pns ?_ | refine sw ?_ | refine ng ?_ | refine aeq ?_ | refine ane ?_ | refine sli rfl ?_ | refine slil rfl ?_ | refine slih rfl ?_ | refine cb (fun hc => ?_) (fun hc => ?_) | refine gs (fun hc => ?_) (fun hc => ?_))
  refine rt ?_
  exact ⟨_, rfl, _, by repeat constructor⟩
end Go.Proofs.YtaeefjcbmkiiaaaGreatDoor
/- The log: what it tells; an entry put. -/
namespace Go.Proofs.YtaeefjcbmkiiaaaGreatDoor
open Go Sl
attribute [local irreducible] J JR JS RO CR Arr Sat Tr sat blk
set_option linter.unusedVariables false
set_option maxHeartbeats 400000
set_option maxRecDepth 4000
theorem hard_tr (w d : Nat) (h : Hrd) (ev sv : Value) : Tr Tryz.prog 17 [.pointer (some ⟨w, 0, none⟩)] [blk w (lcell d h ev sv)] fun v Γ => v = hrdV h ∧ Γ = [blk w (lcell d h ev sv)] := by
  refine Tr_of_J Tryz.func17 follows rfl Tryz.ntmps17 (by simp) fun B F => ?_
  repeat' (first | refine mv ?_ | refine asn ?_ | refine jn ?_ | refine nl ?_ | refine ld rfl ?_ | refine nc ?_ | refine f0 ?_ | refine xt2 ?_ | refine sq ?_ | refine rg ?_ | refine lnb ?_ | refine lls rfl ?_ | refine ad ?_ | refine sb ?_ | refine lss ?_ | refine eql ?_ | refine neq ?_ | refine gtr ?_ | refine geq ?_ | refine leq ?_ | refine nt ?_ | refine pen ?_ | refine pnn ?_ | refine p1 ?_ | refine p0 ?_ | refine sk2 ?_ | refine kp ?_ | refine ct ?_ | refine cf ?_ | (refine cd (fun hc => ?_) (fun hc => ?_) <;> try (exfalso; omega)) | (refine cn (fun hc => ?_) (fun hc => ?_) <;> try (exfalso; omega)) | refine bl ?_ | refine ib ?_ | refine xt ?_ | refine bx (fun b_ => ?_) | refine al (fun b_ => ?_) | refine sr rfl ?_ | refine la rfl ?_ | refine ixa rfl rfl ?_ | refine fe ?_ | refine lde rfl ?_ | refine lae rfl ?_ | refine fa ?_ | refine bld ?_ | refine mf2 ?_ | refine seq ?_ | refine sne ?_ | refine cc ?_ | refine ixb ?_ | refine slb ?_ | refine slbl ?_ | refine slbh ?_ | refine cv ?_ | refine mx ?_ | refine mn ?_ | refine ml ?_ | refine af_ ?_ | (refine gd (fun hc => ?_) (fun hc => ?_) <;> try (exfalso; omega)) | (refine gn (fun hc => ?_) (fun hc => ?_) <;> try (exfalso; omega)) | refine aw ?_ | refine pes ?_ | refine pns ?_ | refine sw ?_ | refine ng ?_ | refine aeq ?_ | refine ane ?_ | refine sli rfl ?_ | refine slil rfl ?_ | refine slih rfl ?_ | refine cb (fun hc => ?_) (fun hc => ?_) | refine gs (fun hc => ?_) (fun hc => ?_))
  refine rt ?_ rfl (.agg rfl (by repeat constructor) (by repeat constructor))
  exact ⟨_, ⟨rfl, rfl⟩, _, by repeat constructor⟩
theorem cloneE_tr (v : Value) (L : List Ent) (hl : L.length ≤ 1000000) : Tr Tryz.prog 44 [v] [sl 70 entE v L] fun r Γ => Γ = [sl 70 entE v L, sl 70 entE r L] := by
  refine Tr_of_J Tryz.func44 follows rfl Tryz.ntmps44 (by simp) fun B F => ?_
  repeat' (first | refine sen rfl (fun e1 e2 => ?_) (fun e1 => ?_) | refine bsl (e := entE) (X := []) (fun v2 => ?_) .nil | refine apo rfl rfl (fun v3 => ?_) (by simp; omega) (by simp; omega) | refine mv ?_ | refine asn ?_ | refine jn ?_ | refine nl ?_ | refine ld rfl ?_ | refine nc ?_ | refine f0 ?_ | refine xt2 ?_ | refine sq ?_ | refine rg ?_ | refine lnb ?_ | refine lls rfl ?_ | refine ad ?_ | refine sb ?_ | refine lss ?_ | refine eql ?_ | refine neq ?_ | refine gtr ?_ | refine geq ?_ | refine leq ?_ | refine nt ?_ | refine pen ?_ | refine pnn ?_ | refine p1 ?_ | refine p0 ?_ | refine sk2 ?_ | refine kp ?_ | refine ct ?_ | refine cf ?_ | (refine cd (fun hc => ?_) (fun hc => ?_) <;> try (exfalso; omega)) | (refine cn (fun hc => ?_) (fun hc => ?_) <;> try (exfalso; omega)) | refine bl ?_ | refine ib ?_ | refine xt ?_ | refine bx (fun b_ => ?_) | refine al (fun b_ => ?_) | refine sr rfl ?_ | refine la rfl ?_ | refine ixa rfl rfl ?_ | refine fe ?_ | refine lde rfl ?_ | refine lae rfl ?_ | refine fa ?_ | refine bld ?_ | refine mf2 ?_ | refine seq ?_ | refine sne ?_ | refine cc ?_ | refine ixb ?_ | refine slb ?_ | refine slbl ?_ | refine slbh ?_ | refine cv ?_ | refine mx ?_ | refine mn ?_ | refine ml ?_ | refine af_ ?_ | (refine gd (fun hc => ?_) (fun hc => ?_) <;> try (exfalso; omega)) | (refine gn (fun hc => ?_) (fun hc => ?_) <;> try (exfalso; omega)) | refine aw ?_ | refine pes ?_ | refine pns ?_ | refine sw ?_ | refine ng ?_ | refine aeq ?_ | refine ane ?_ | refine sli rfl ?_ | refine slil rfl ?_ | refine slih rfl ?_ | refine cb (fun hc => ?_) (fun hc => ?_) | refine gs (fun hc => ?_) (fun hc => ?_))
  · subst e1 e2
    refine J_sat (Γ' := sl 70 entE (.slice none 0 0) [] :: _) ?_ fun w hS => sl_nil hS
    refine rt ?_
    exact ⟨_, rfl, _, by repeat constructor⟩
  · rw [List.nil_append]
    refine rt ?_
    exact ⟨_, rfl, _, by repeat constructor⟩
theorem cloneS_tr (v : Value) (L : List Seg) (hl : L.length ≤ 1000000) : Tr Tryz.prog 54 [v] [sl 94 segE v L] fun r Γ => Γ = [sl 94 segE v L, sl 94 segE r L] := by
  refine Tr_of_J Tryz.func54 follows rfl Tryz.ntmps54 (by simp) fun B F => ?_
  repeat' (first | refine sen rfl (fun e1 e2 => ?_) (fun e1 => ?_) | refine bsl (e := segE) (X := []) (fun v2 => ?_) .nil | refine apo rfl rfl (fun v3 => ?_) (by simp; omega) (by simp; omega) | refine mv ?_ | refine asn ?_ | refine jn ?_ | refine nl ?_ | refine ld rfl ?_ | refine nc ?_ | refine f0 ?_ | refine xt2 ?_ | refine sq ?_ | refine rg ?_ | refine lnb ?_ | refine lls rfl ?_ | refine ad ?_ | refine sb ?_ | refine lss ?_ | refine eql ?_ | refine neq ?_ | refine gtr ?_ | refine geq ?_ | refine leq ?_ | refine nt ?_ | refine pen ?_ | refine pnn ?_ | refine p1 ?_ | refine p0 ?_ | refine sk2 ?_ | refine kp ?_ | refine ct ?_ | refine cf ?_ | (refine cd (fun hc => ?_) (fun hc => ?_) <;> try (exfalso; omega)) | (refine cn (fun hc => ?_) (fun hc => ?_) <;> try (exfalso; omega)) | refine bl ?_ | refine ib ?_ | refine xt ?_ | refine bx (fun b_ => ?_) | refine al (fun b_ => ?_) | refine sr rfl ?_ | refine la rfl ?_ | refine ixa rfl rfl ?_ | refine fe ?_ | refine lde rfl ?_ | refine lae rfl ?_ | refine fa ?_ | refine bld ?_ | refine mf2 ?_ | refine seq ?_ | refine sne ?_ | refine cc ?_ | refine ixb ?_ | refine slb ?_ | refine slbl ?_ | refine slbh ?_ | refine cv ?_ | refine mx ?_ | refine mn ?_ | refine ml ?_ | refine af_ ?_ | (refine gd (fun hc => ?_) (fun hc => ?_) <;> try (exfalso; omega)) | (refine gn (fun hc => ?_) (fun hc => ?_) <;> try (exfalso; omega)) | refine aw ?_ | refine pes ?_ | refine pns ?_ | refine sw ?_ | refine ng ?_ | refine aeq ?_ | refine ane ?_ | refine sli rfl ?_ | refine slil rfl ?_ | refine slih rfl ?_ | refine cb (fun hc => ?_) (fun hc => ?_) | refine gs (fun hc => ?_) (fun hc => ?_))
  · subst e1 e2
    refine J_sat (Γ' := sl 94 segE (.slice none 0 0) [] :: _) ?_ fun w hS => sl_nil hS
    refine rt ?_
    exact ⟨_, rfl, _, by repeat constructor⟩
  · rw [List.nil_append]
    refine rt ?_
    exact ⟨_, rfl, _, by repeat constructor⟩
theorem entries_tr (w d : Nat) (h : Hrd) (ev sv : Value) (L : List Ent) (hl : L.length ≤ 1000000) : Tr Tryz.prog 19 [.pointer (some ⟨w, 0, none⟩)] [blk w (lcell d h ev sv), sl 70 entE ev L] fun v Γ => Γ = [blk w (lcell d h ev sv), sl 70 entE ev L, sl 70 entE v L] := by
  refine Tr_of_J Tryz.func19 follows rfl Tryz.ntmps19 (by simp) fun B F => ?_
  repeat' (first | (refine cl (cloneE_tr ev L hl) ?_; rintro v Γ' rfl; refine n2 ?_) | refine mv ?_ | refine asn ?_ | refine jn ?_ | refine nl ?_ | refine ld rfl ?_ | refine nc ?_ | refine f0 ?_ | refine xt2 ?_ | refine sq ?_ | refine rg ?_ | refine lnb ?_ | refine lls rfl ?_ | refine ad ?_ | refine sb ?_ | refine lss ?_ | refine eql ?_ | refine neq ?_ | refine gtr ?_ | refine geq ?_ | refine leq ?_ | refine nt ?_ | refine pen ?_ | refine pnn ?_ | refine p1 ?_ | refine p0 ?_ | refine sk2 ?_ | refine kp ?_ | refine ct ?_ | refine cf ?_ | (refine cd (fun hc => ?_) (fun hc => ?_) <;> try (exfalso; omega)) | (refine cn (fun hc => ?_) (fun hc => ?_) <;> try (exfalso; omega)) | refine bl ?_ | refine ib ?_ | refine xt ?_ | refine bx (fun b_ => ?_) | refine al (fun b_ => ?_) | refine sr rfl ?_ | refine la rfl ?_ | refine ixa rfl rfl ?_ | refine fe ?_ | refine lde rfl ?_ | refine lae rfl ?_ | refine fa ?_ | refine bld ?_ | refine mf2 ?_ | refine seq ?_ | refine sne ?_ | refine cc ?_ | refine ixb ?_ | refine slb ?_ | refine slbl ?_ | refine slbh ?_ | refine cv ?_ | refine mx ?_ | refine mn ?_ | refine ml ?_ | refine af_ ?_ | (refine gd (fun hc => ?_) (fun hc => ?_) <;> try (exfalso; omega)) | (refine gn (fun hc => ?_) (fun hc => ?_) <;> try (exfalso; omega)) | refine aw ?_ | refine pes ?_ | refine pns ?_ | refine sw ?_ | refine ng ?_ | refine aeq ?_ | refine ane ?_ | refine sli rfl ?_ | refine slil rfl ?_ | refine slih rfl ?_ | refine cb (fun hc => ?_) (fun hc => ?_) | refine gs (fun hc => ?_) (fun hc => ?_))
  refine rt ?_
  exact ⟨_, rfl, _, by repeat constructor⟩
end Go.Proofs.YtaeefjcbmkiiaaaGreatDoor
/- The log: an entry put. -/
namespace Go.Proofs.YtaeefjcbmkiiaaaGreatDoor
open Go Sl
attribute [local irreducible] J JR JS RO CR Arr Sat Tr sat blk
set_option linter.unusedVariables false
set_option maxHeartbeats 400000
set_option maxRecDepth 4000
section
open Go.RowKit
variable {c : Ctx} {k : List Item} {st : St} {Γ : List Assn} {d : Option Tmp} {ty : TypeId} {pos : String} {af : Array Edge} {g : Option (Nat × Bool)} {ops : Array Oper} {rs : List Oper} {l : List Stp} {fl : Bool}
/-- append(s[:n], xs...), s owned, xs read. -/
theorem apt {x y : Operand} {T : TypeId} {α : Type} {e : EncT α} {L X : List α} {E bb n : Nat} {z s v : Value} {Γ' : List Assn} [ht : TSlice c.P T E] [hz : ESize c.P E e.sz bb] [hZ : TZero c.P E z] (hx : Sl.ev st x = some (vw v 0 n e.sz)) (hy : Sl.ev st y = some s) [hs : SelS Γ v E e L Γ'] [hr : RdG Γ s e X] (hn : n ≤ L.length) (h : ∀ v', JS c ops rs l k (stput d v' st) (sl E e v' (L.take n ++ X) :: Γ'))
    (hb : ((L.take n).length + X.length) * bb ≤ 140737488355328) (hm : (L.take n).length + X.length ≤ 9223372036854775807) (hzl : z.cells.size = e.sz := by rfl) (hg : gOk ops st ⟨d, .call ⟨.builtin .append, #[x, y], #[T, T]⟩, ty, pos, af, g⟩ = some true := by rfl) (hd : dOk d c.n = true := by rfl) :
    JR c ops (⟨⟨d, .call ⟨.builtin .append, #[x, y], #[T, T]⟩, ty, pos, af, g⟩, false, rs⟩ :: l) k st Γ :=
  apd hx hy (fun B F w hS => tgt_take hn (tgt_sl (hS.perm hs.h.perm))) (fun B F w hS => hr.h B F w hS) h hb hm hzl hg hd
theorem RO_sub_eq {x y : Operand} {T U : TypeId} {i : IntKind} {m n r : Int} (hx : ev st x = some (.int i m)) (hy : ev st y = some (.int i n)) (he : i.wrap (m - n) = r) : RO c st Γ ⟨d, .binOp .sub T x y U, ty, pos, af, g⟩ (.int i r) := by
  subst he; exact RO_sub hx hy
end
theorem put_tr (w d : Nat) (h : Hrd) (ev sv : Value) (L : List Ent) (S : List Seg) (e : Ent) (he : e.In) (he0 : 0 < e.index) (hL : Rise L) (hS : S ≠ []) (hSl : S.length ≤ 100000) (hLl : L.length ≤ 1000000) :
    Tr Tryz.prog 60 [.pointer (some ⟨w, 0, none⟩), entV e] [blk w (lcell d h ev sv), sl 70 entE ev L, sl 94 segE sv S]
      fun v Γ => ∃ ev', Γ = [blk w (lcell d h ev' sv), sl 70 entE ev' (putE L e), sl 94 segE sv (setTop S e.index)] := by
  have hS0 : 0 < S.length := List.length_pos_iff.2 hS
  refine Tr_of_J Tryz.func60 follows rfl Tryz.ntmps60 (by simp) fun B F => ?_
  repeat' (first | refine bsl (e := entE) (X := [e]) (fun v2 => ?_) (.cona rfl rfl .nil) | refine sro rfl rfl ?_ | refine sre rfl ?_ | refine mv ?_ | refine asn ?_ | refine jn ?_ | refine nl ?_ | refine ld rfl ?_ | refine nc ?_ | refine f0 ?_ | refine xt2 ?_ | refine sq ?_ | refine rg ?_ | refine lnb ?_ | refine lls rfl ?_ | refine ad ?_ | refine sb ?_ | refine lss ?_ | refine eql ?_ | refine neq ?_ | refine gtr ?_ | refine geq ?_ | refine leq ?_ | refine nt ?_ | refine pen ?_ | refine pnn ?_ | refine p1 ?_ | refine p0 ?_ | refine sk2 ?_ | refine kp ?_ | refine ct ?_ | refine cf ?_ | (refine cd (fun hc => ?_) (fun hc => ?_) <;> try (exfalso; omega)) | (refine cn (fun hc => ?_) (fun hc => ?_) <;> try (exfalso; omega)) | refine bl ?_ | refine ib ?_ | refine xt ?_ | refine bx (fun b_ => ?_) | refine al (fun b_ => ?_) | refine sr rfl ?_ | refine la rfl ?_ | refine ixa rfl rfl ?_ | refine fe ?_ | refine lde rfl ?_ | refine lae rfl ?_ | refine fa ?_ | refine bld ?_ | refine mf2 ?_ | refine seq ?_ | refine sne ?_ | refine cc ?_ | refine ixb ?_ | refine slb ?_ | refine slbl ?_ | refine slbh ?_ | refine cv ?_ | refine mx ?_ | refine mn ?_ | refine ml ?_ | refine af_ ?_ | (refine gd (fun hc => ?_) (fun hc => ?_) <;> try (exfalso; omega)) | (refine gn (fun hc => ?_) (fun hc => ?_) <;> try (exfalso; omega)) | refine aw ?_ | refine pes ?_ | refine pns ?_ | refine sw ?_ | refine ng ?_ | refine aeq ?_ | refine ane ?_ | refine sli rfl ?_ | refine slil rfl ?_ | refine slih rfl ?_ | refine cb (fun hc => ?_) (fun hc => ?_) | refine gs (fun hc => ?_) (fun hc => ?_) | refine J_draw (id := 1) [(0, true, []), (1, true, []), (2, true, []), (3, true, []), (4, true, []), (5, true, []), (6, true, []), (7, true, []), (8, true, []), (9, true, []), (10, true, []), (11, true, [])] (by kernel_rfl) ?_ | refine J_draw (id := 2) [(0, true, []), (1, true, []), (2, true, []), (3, true, []), (4, true, []), (5, true, []), (6, true, []), (7, true, []), (8, true, []), (9, true, []), (10, false, [])] (by kernel_rfl) ?_ | refine J_draw (id := 4) [(0, true, []), (1, true, []), (2, true, []), (3, true, []), (4, true, []), (5, true, []), (6, true, []), (7, true, []), (8, true, []), (9, true, []), (10, true, []), (11, true, []), (12, true, []), (13, true, []), (14, true, []), (15, true, []), (16, true, []), (17, true, []), (18, true, []), (19, true, []), (20, true, []), (21, true, []), (22, true, []), (23, true, []), (24, true, []), (25, true, []), (26, true, []), (27, true, []), (28, true, [])] (by kernel_rfl) ?_ | refine J_draw (id := 6) [(0, true, []), (1, true, []), (2, true, []), (3, true, []), (4, true, []), (5, true, []), (6, true, []), (7, true, []), (8, true, []), (9, true, []), (10, true, []), (11, true, []), (12, true, []), (13, true, []), (14, true, []), (15, true, []), (16, true, []), (17, false, [0, 1, 2, 3, 4, 5, 6, 7, 8, 9, 10, 11, 12, 13, 14, 15]), (18, false, [0]), (19, true, []), (20, true, []), (21, false, [])] (by kernel_rfl) ?_ | refine JS_cons rfl rfl (RO_move rfl) ?_ | refine JS_cons rfl rfl (RO_nilCheck rfl) ?_ | refine JS_cons rfl rfl (RO_fieldAddr0 rfl) ?_ | refine JS_cons rfl rfl (RO_load rfl (by rfl)) ?_ | refine JS_off rfl ?_ | refine JS_cons rfl rfl (RO_extract rfl rfl) ?_ | refine JS_cons rfl rfl (RO_not rfl) ?_ | refine JS_cons rfl rfl (RO_fieldAddr rfl) ?_ | refine JS_cons rfl rfl (RO_lnb rfl) ?_ | refine JS_cons rfl rfl (RO_lls rfl) ?_ | refine JS_cons rfl rfl (RO_add_in rfl rfl (by omega)) ?_ | refine JS_cons rfl rfl (RO_sub_in rfl rfl (by omega)) ?_ | refine JS_cons rfl rfl (RO_ixa rfl rfl (by omega)) ?_ | refine JS_cons rfl rfl (RO_fe rfl) ?_ | refine JS_cons rfl rfl (RO_lde rfl (by omega) rfl) ?_ | refine JS_cons rfl rfl (RO_slih rfl rfl (by omega)) ?_ | refine JS_cons rfl rfl (RO_slil rfl rfl (by omega)) ?_ | refine JS_offu rfl ?_ | refine JS_cons rfl rfl (RO_cc rfl rfl (by omega)) ?_ | refine JS_cons rfl rfl (RO_bld rfl (by (repeat (first | exact FillS.nil | (apply FillS.cons; rfl; rfl; constructor; rfl; (focus repeat constructor)))))) ?_ | refine JS_cons rfl rfl (RO_lae rfl (by omega) (by repeat constructor)) ?_ | refine JS_cons rfl rfl (RO_loadAgg rfl (by repeat constructor)) ?_)
  · rw [show putE L e = [e] by simp_all [putE]]
    refine rt ?_
    exact ⟨_, ⟨_, rfl⟩, _, by repeat constructor⟩
  · rw [show putE L e = [e] from if_pos (.inr (.inl ‹_›))]
    refine rt ?_
    exact ⟨_, ⟨_, rfl⟩, _, by repeat constructor⟩
  · rw [show putE L e = [e] from if_pos (.inr (.inr ‹_›))]
    refine rt ?_
    exact ⟨_, ⟨_, rfl⟩, _, by repeat constructor⟩
  · rename_i h1 h2
    have h3 : ¬ e.index < (headE L).index := ‹_›
    have h0 : 0 < L.length := by omega
    have hlast : (lastE L).index = (headE L).index + (L.length - 1 : Nat) := by
      have := hL.up (L.length - 1) (by omega)
      unfold lastE headE
      rw [show ((L.length : Int) - 1).toNat = L.length - 1 by omega]
      exact this
    have hmem : ∀ i, i < L.length → I64 (L.getD i .none).index := fun i hi => by
      rw [List.getD_eq_getElem?_getD, List.getElem?_eq_getElem hi]
      exact (hL.in_ _ (List.getElem_mem hi)).i
    have hA : I64 (lastE L).index := hmem _ (by omega)
    have hB : I64 (headE L).index := hmem _ h0
    have hE := he.i
    unfold I64 at hA hB hE
    have hw1 : ¬ IntKind.i64.wrap ((lastE L).index + 1) < e.index := ‹_›
    have hle : e.index - (headE L).index ≤ L.length := by
      by_cases hm : (lastE L).index + 1 ≤ 9223372036854775807
      · rw [wrap_in (by omega) hm] at hw1; omega
      · have : (lastE L).index + 1 = 9223372036854775808 := by omega
        rw [this] at hw1
        have : IntKind.i64.wrap 9223372036854775808 = -9223372036854775808 := by decide
        rw [this] at hw1; omega
    have hw : IntKind.i64.wrap (e.index - (headE L).index) = e.index - (headE L).index := wrap_in (by omega) (by omega)
    have hw' : IntKind.i64.wrap (e.index - (L.getD (Int.toNat 0) entE.dflt).index) = e.index - (headE L).index := hw
    rw [hw']
    have hput : putE L e = L.take (e.index - (headE L).index).toNat ++ [e] := if_neg (by rintro (h | h | h) <;> omega)
    rw [hput]
    have hw2 : IntKind.i64.wrap (e.index - (L.getD (Int.toNat 0) entE.dflt).index) = e.index - (headE L).index := hw'
    have hge : 0 ≤ e.index - (headE L).index := by omega
    generalize hk : e.index - (headE L).index = kk at hle hge hw2 ⊢
    repeat' (first | refine slih rfl ?_ | refine bsl (e := entE) (X := [e]) (fun v2 => ?_) (.cona rfl rfl .nil) | refine JS_cons rfl rfl (RO_sub_eq rfl rfl hw2) ?_ | refine apt rfl rfl (n := kk.toNat) (v := ev) (by omega) (fun v3 => ?_) (by simp; omega) (by simp; omega) | refine sro rfl rfl ?_ | refine mv ?_ | refine asn ?_ | refine jn ?_ | refine nl ?_ | refine ld rfl ?_ | refine nc ?_ | refine f0 ?_ | refine xt2 ?_ | refine sq ?_ | refine rg ?_ | refine lnb ?_ | refine lls rfl ?_ | refine ad ?_ | refine sb ?_ | refine lss ?_ | refine eql ?_ | refine neq ?_ | refine gtr ?_ | refine geq ?_ | refine leq ?_ | refine nt ?_ | refine pen ?_ | refine pnn ?_ | refine p1 ?_ | refine p0 ?_ | refine sk2 ?_ | refine kp ?_ | refine ct ?_ | refine cf ?_ | (refine cd (fun hc => ?_) (fun hc => ?_) <;> try (exfalso; omega)) | (refine cn (fun hc => ?_) (fun hc => ?_) <;> try (exfalso; omega)) | refine bl ?_ | refine ib ?_ | refine xt ?_ | refine bx (fun b_ => ?_) | refine al (fun b_ => ?_) | refine sr rfl ?_ | refine la rfl ?_ | refine ixa rfl rfl ?_ | refine fe ?_ | refine lde rfl ?_ | refine lae rfl ?_ | refine fa ?_ | refine bld ?_ | refine mf2 ?_ | refine seq ?_ | refine sne ?_ | refine cc ?_ | refine ixb ?_ | refine slb ?_ | refine slbl ?_ | refine slbh ?_ | refine cv ?_ | refine mx ?_ | refine mn ?_ | refine ml ?_ | refine af_ ?_ | (refine gd (fun hc => ?_) (fun hc => ?_) <;> try (exfalso; omega)) | (refine gn (fun hc => ?_) (fun hc => ?_) <;> try (exfalso; omega)) | refine aw ?_ | refine pes ?_ | refine pns ?_ | refine sw ?_ | refine ng ?_ | refine aeq ?_ | refine ane ?_ | refine sli rfl ?_ | refine slil rfl ?_ | refine slih rfl ?_ | refine cb (fun hc => ?_) (fun hc => ?_) | refine gs (fun hc => ?_) (fun hc => ?_) | refine J_draw (id := 1) [(0, true, []), (1, true, []), (2, true, []), (3, true, []), (4, true, []), (5, true, []), (6, true, []), (7, true, []), (8, true, []), (9, true, []), (10, true, []), (11, true, [])] (by kernel_rfl) ?_ | refine J_draw (id := 2) [(0, true, []), (1, true, []), (2, true, []), (3, true, []), (4, true, []), (5, true, []), (6, true, []), (7, true, []), (8, true, []), (9, true, []), (10, false, [])] (by kernel_rfl) ?_ | refine J_draw (id := 4) [(0, true, []), (1, true, []), (2, true, []), (3, true, []), (4, true, []), (5, true, []), (6, true, []), (7, true, []), (8, true, []), (9, true, []), (10, true, []), (11, true, []), (12, true, []), (13, true, []), (14, true, []), (15, true, []), (16, true, []), (17, true, []), (18, true, []), (19, true, []), (20, true, []), (21, true, []), (22, true, []), (23, true, []), (24, true, []), (25, true, []), (26, true, []), (27, true, []), (28, true, [])] (by kernel_rfl) ?_ | refine J_draw (id := 6) [(0, true, []), (1, true, []), (2, true, []), (3, true, []), (4, true, []), (5, true, []), (6, true, []), (7, true, []), (8, true, []), (9, true, []), (10, true, []), (11, true, []), (12, true, []), (13, true, []), (14, true, []), (15, true, []), (16, true, []), (17, false, [0, 1, 2, 3, 4, 5, 6, 7, 8, 9, 10, 11, 12, 13, 14, 15]), (18, false, [0]), (19, true, []), (20, true, []), (21, false, [])] (by kernel_rfl) ?_ | refine JS_cons rfl rfl (RO_move rfl) ?_ | refine JS_cons rfl rfl (RO_nilCheck rfl) ?_ | refine JS_cons rfl rfl (RO_fieldAddr0 rfl) ?_ | refine JS_cons rfl rfl (RO_load rfl (by rfl)) ?_ | refine JS_off rfl ?_ | refine JS_cons rfl rfl (RO_extract rfl rfl) ?_ | refine JS_cons rfl rfl (RO_not rfl) ?_ | refine JS_cons rfl rfl (RO_fieldAddr rfl) ?_ | refine JS_cons rfl rfl (RO_lnb rfl) ?_ | refine JS_cons rfl rfl (RO_lls rfl) ?_ | refine JS_cons rfl rfl (RO_add_in rfl rfl (by omega)) ?_ | refine JS_cons rfl rfl (RO_sub_in rfl rfl (by omega)) ?_ | refine JS_cons rfl rfl (RO_ixa rfl rfl (by omega)) ?_ | refine JS_cons rfl rfl (RO_fe rfl) ?_ | refine JS_cons rfl rfl (RO_lde rfl (by omega) rfl) ?_ | refine JS_cons rfl rfl (RO_slih rfl rfl (by omega)) ?_ | refine JS_cons rfl rfl (RO_slil rfl rfl (by omega)) ?_ | refine JS_offu rfl ?_ | refine JS_cons rfl rfl (RO_cc rfl rfl (by omega)) ?_ | refine JS_cons rfl rfl (RO_bld rfl (by (repeat (first | exact FillS.nil | (apply FillS.cons; rfl; rfl; constructor; rfl; (focus repeat constructor)))))) ?_ | refine JS_cons rfl rfl (RO_lae rfl (by omega) (by repeat constructor)) ?_ | refine JS_cons rfl rfl (RO_loadAgg rfl (by repeat constructor)) ?_)
    refine rte ?_
    exact ⟨_, ⟨_, rfl⟩, _, by repeat constructor⟩
end Go.Proofs.YtaeefjcbmkiiaaaGreatDoor
/- The log: what is laid down, saved, forgotten; what is so on a disk whose power stays: plain. -/
namespace Go.Proofs.YtaeefjcbmkiiaaaGreatDoor
open Go Sl
set_option linter.unusedVariables false

def frames (ps : List (List UInt8)) : List UInt8 := ps.flatMap frame
def segFile (s : Seg) : Nm := segName s.number.toNat
def told (S : List Seg) (h : Hrd) (tell : Bool) (ps : List (List UInt8)) : List (List UInt8) := if tell = true ∨ (lastS S).size = 0 then hardText h :: ps else ps
def layT (S : List Seg) (h : Hrd) (tell : Bool) (ps : List (List UInt8)) : List UInt8 := frames (told S h tell ps)
def layA (S : List Seg) (D : DiskS) (h : Hrd) (tell : Bool) (ps : List (List UInt8)) : Int × DiskS := D.append (segFile (lastS S)) (layT S h tell ps)
def grown (S : List Seg) (h : Hrd) (tell : Bool) (ps : List (List UInt8)) : List Seg := setLast S { lastS S with size := (lastS S).size + (layT S h tell ps).length }
/-- Records laid down: the error, the segments, the disk. -/
def layE (S : List Seg) (D : DiskS) (h : Hrd) (tell : Bool) (ps : List (List UInt8)) : Int := if (layA S D h tell ps).1 ≠ 0 then (layA S D h tell ps).1 else ((layA S D h tell ps).2.sync (segFile (lastS S))).1
def layS (S : List Seg) (D : DiskS) (h : Hrd) (tell : Bool) (ps : List (List UInt8)) : List Seg := if (layA S D h tell ps).1 ≠ 0 then S else grown S h tell ps
def layD (S : List Seg) (D : DiskS) (h : Hrd) (tell : Bool) (ps : List (List UInt8)) : DiskS := if (layA S D h tell ps).1 ≠ 0 then (layA S D h tell ps).2 else ((layA S D h tell ps).2.sync (segFile (lastS S))).2
def more (S : List Seg) : Prop := 2000 ≤ (lastS S).size ∧ (S.length : Int) < 20
instance (S : List Seg) : Decidable (more S) := by unfold more; infer_instance
def next (S : List Seg) : List Seg := S ++ [⟨(lastS S).number + 1, 0, 0⟩]
def begun (S : List Seg) : List Seg := if more S then next S else S
/-- The segments that are there, if the last one could not be begun. -/
def there (D : DiskS) (S0 S : List Seg) : List Seg := if segFile (lastS S) ∈ D.files.map (·.1) then S else S0
def puts (W : LogS) (l : List Ent) : LogS := l.foldl LogS.put W
/-- What a save comes to: the error, the log, the disk. -/
def LogS.save (W : LogS) (D : DiskS) (h : Hrd) (l : List Ent) : Int × LogS × DiskS :=
  if h.term < 0 ∨ h.vote < 0 ∨ (l.any fun e => !e.right) = true then (1, W, D)
  else if l = [] ∧ h = W.hard then (0, W, D)
  else if layE (begun W.segs) D h (decide (h ≠ W.hard)) (l.map entText) ≠ 0 then
    (layE (begun W.segs) D h (decide (h ≠ W.hard)) (l.map entText), { W with segs := if more W.segs then there (layD (begun W.segs) D h (decide (h ≠ W.hard)) (l.map entText)) W.segs (layS (begun W.segs) D h (decide (h ≠ W.hard)) (l.map entText)) else layS (begun W.segs) D h (decide (h ≠ W.hard)) (l.map entText) }, layD (begun W.segs) D h (decide (h ≠ W.hard)) (l.map entText))
  else (0, puts { W with hard := h, segs := layS (begun W.segs) D h (decide (h ≠ W.hard)) (l.map entText) } l, layD (begun W.segs) D h (decide (h ≠ W.hard)) (l.map entText))
def LogS.reset (W : LogS) (D : DiskS) : Int × LogS × DiskS :=
  if layE W.segs D W.hard false [resetText] ≠ 0 then (layE W.segs D W.hard false [resetText], { W with segs := layS W.segs D W.hard false [resetText] }, layD W.segs D W.hard false [resetText])
  else (0, { W with segs := layS W.segs D W.hard false [resetText], ents := [] }, layD W.segs D W.hard false [resetText])

/-! ### names of segments -/
def sn (n : Nat) : Nm := if n < 10 then [119, UInt8.ofNat (48 + n)] else [119, UInt8.ofNat (48 + n / 10), UInt8.ofNat (48 + n % 10)]
theorem segName_sn {n : Nat} (h : n < 100) : segName n = sn n := by
  unfold segName sn
  split
  · rw [Lib.decDigits_one (by assumption)]
  · rw [Lib.decDigits_two (by assumption) h]
def snVal (s : Nm) : Nat := match s with | [_, a] => a.toNat - 48 | [_, a, b] => (a.toNat - 48) * 10 + (b.toNat - 48) | _ => 0
theorem snVal_all : ∀ n : Fin 100, snVal (sn n.val) = n.val := by decide +kernel
theorem sn_ok : ∀ n : Fin 100, okName (sn n.val) = true := by decide +kernel
theorem segName_inj {a b : Nat} (ha : a < 100) (hb : b < 100) (h : segName a = segName b) : a = b := by
  rw [segName_sn ha, segName_sn hb] at h
  have := congrArg snVal h
  rwa [snVal_all ⟨a, ha⟩, snVal_all ⟨b, hb⟩] at this
theorem segName_ok {a : Nat} (ha : a < 100) : okName (segName a) = true := by
  rw [segName_sn ha]; exact sn_ok ⟨a, ha⟩
theorem segName_le {a : Nat} (ha : a < 100) : (segName a).length ≤ 24 := by
  have := segName_ok ha
  simp only [okName, Bool.and_eq_true, decide_eq_true_eq] at this
  exact this.1.2

/-! ### a disk whose power stays -/
theorem assoc_no {κ α : Type} [DecidableEq κ] {l : List (κ × α)} {k : κ} (h : k ∉ l.map (·.1)) : assoc l k = none := by
  cases ha : assoc l k with
  | none => rfl
  | some x => exact absurd (List.mem_map.2 ⟨_, assoc_mem ha, rfl⟩) h
theorem assoc_end {κ α : Type} [DecidableEq κ] {l : List (κ × α)} {k : κ} (x : α) (h : k ∉ l.map (·.1)) : assoc (l ++ [(k, x)]) k = some x := by
  induction l with
  | nil => simp [assoc]
  | cons p l ih =>
    obtain ⟨k', y⟩ := p
    simp only [List.map_cons, List.mem_cons, not_or] at h
    rw [List.cons_append, assoc, if_neg h.1]
    exact ih h.2
theorem aput_end {κ α : Type} [DecidableEq κ] {l : List (κ × α)} {k : κ} (x y : α) (h : k ∉ l.map (·.1)) : aput (l ++ [(k, x)]) k y = l ++ [(k, y)] := by
  induction l with
  | nil => simp [aput]
  | cons p l ih =>
    obtain ⟨k', z⟩ := p
    simp only [List.map_cons, List.mem_cons, not_or] at h
    rw [List.cons_append, aput, if_neg h.1, ih h.2, List.cons_append]
theorem aput_no {κ α : Type} [DecidableEq κ] {l : List (κ × α)} {k : κ} (y : α) (h : k ∉ l.map (·.1)) : aput l k y = l ++ [(k, y)] := by
  induction l with
  | nil => simp [aput]
  | cons p l ih =>
    obtain ⟨k', z⟩ := p
    simp only [List.map_cons, List.mem_cons, not_or] at h
    rw [aput, if_neg h.1, ih h.2, List.cons_append]
theorem turn_live {D : DiskS} (h1 : D.fuse = -1) : D.turn = (0, D) := by
  obtain ⟨a, b, c, d⟩ := D
  dsimp only at h1
  subst h1
  rfl
theorem app_old {D : DiskS} (h1 : D.dead = false) (h2 : D.fuse = -1) {B : List (Nm × FileS)} {k : Nm} {f : FileS} (hf : D.files = B ++ [(k, f)]) (hB : k ∉ B.map (·.1)) (hk : okName k = true) (data : List UInt8) :
    D.append k data = if D.most < (DiskS.total D.files : Int) + data.length then (6, D) else (0, { D with files := B ++ [(k, ⟨f.bytes ++ data, f.synced⟩)] }) := by
  have ha : D.find k = (f, 0) := by simp [DiskS.find, h1, hf, assoc_end f hB]
  unfold DiskS.append
  rw [ha, turn_live h2, hk, hf, aput_end _ _ hB]
  simp
theorem app_new {D : DiskS} (h1 : D.dead = false) (h2 : D.fuse = -1) {k : Nm} (hB : k ∉ D.files.map (·.1)) (hk : okName k = true) (hc : D.files.length < 40) (data : List UInt8) :
    D.append k data = if D.most < (DiskS.total D.files : Int) + data.length then (6, D) else (0, { D with files := D.files ++ [(k, ⟨data, 0⟩)] }) := by
  have ha : D.find k = (.none, 4) := by simp [DiskS.find, h1, assoc_no hB]
  unfold DiskS.append
  rw [ha, turn_live h2, hk, aput_no _ hB]
  have : ¬ (D.files.length : Int) = 40 := by omega
  simp [this]
theorem sync_end {D : DiskS} (h1 : D.dead = false) (h2 : D.fuse = -1) {B : List (Nm × FileS)} {k : Nm} {f : FileS} (hf : D.files = B ++ [(k, f)]) (hB : k ∉ B.map (·.1)) :
    D.sync k = (0, { D with files := B ++ [(k, ⟨f.bytes, f.bytes.length⟩)] }) := by
  have ha : D.find k = (f, 0) := by simp [DiskS.find, h1, hf, assoc_end f hB]
  unfold DiskS.sync DiskS.does
  rw [ha, turn_live h2, hf]
  dsimp only
  rw [aput_end _ _ hB]
  simp

/-! ### segments and their files -/
structure SD (S : List Seg) (D : DiskS) : Prop where
  ok : D.Ok
  dead : D.dead = false
  fuse : D.fuse = -1
  ne : S ≠ []
  cnt : S.length ≤ 20
  num : ∀ (i : Nat) (s : Seg), S[i]? = some s → s.number = (i : Int) + 1
  files : D.files.map (fun p => (p.1, (p.2.bytes.length : Int))) = S.map fun s => (segFile s, s.size)
theorem lastS_end (A : List Seg) (q : Seg) : lastS (A ++ [q]) = q := by
  have : ((((A ++ [q]).length : Nat) : Int) - 1).toNat = A.length := by rw [List.length_append]; simp
  unfold lastS; rw [this]; simp
theorem setLast_end (A : List Seg) (q r : Seg) : setLast (A ++ [q]) r = A ++ [r] := by
  have : ((((A ++ [q]).length : Nat) : Int) - 1).toNat = A.length := by rw [List.length_append]; simp
  unfold setLast; rw [this]; simp
theorem ne_end {α : Type} {S : List α} (h : S ≠ []) : ∃ A q, S = A ++ [q] := ⟨S.dropLast, S.getLast h, (List.dropLast_concat_getLast h).symm⟩
theorem SD.numEnd {A : List Seg} {q : Seg} {D : DiskS} (h : SD (A ++ [q]) D) : q.number = (A.length : Int) + 1 := h.num A.length q (by simp)
theorem segFile_notin {A : List Seg} (hA : ∀ (i : Nat) (s : Seg), A[i]? = some s → s.number = (i : Int) + 1) (hc : A.length ≤ 20) {q : Seg} (hq : q.number = (A.length : Int) + 1) : segFile q ∉ A.map segFile := by
  intro hm
  obtain ⟨s, hs, he⟩ := List.mem_map.1 hm
  obtain ⟨i, hi, rfl⟩ := List.getElem_of_mem hs
  have hn := hA i A[i] (by simp [hi])
  unfold segFile at he
  rw [hn, hq] at he
  have := segName_inj (by omega) (by omega) he
  omega
theorem segFile_ok {q : Seg} {n : Nat} (hq : q.number = (n : Int) + 1) (hn : n ≤ 20) : okName (segFile q) = true := segName_ok (by rw [hq]; omega)
theorem keys_of {S : List Seg} {l : List (Nm × FileS)} (h : l.map (fun p => (p.1, (p.2.bytes.length : Int))) = S.map fun s => (segFile s, s.size)) : l.map (·.1) = S.map segFile := by
  have := congrArg (List.map Prod.fst) h
  rw [List.map_map, List.map_map] at this
  exact this
theorem sync_ok_of {D : DiskS} (h : D.Ok) {B : List (Nm × FileS)} {k : Nm} {data : List UInt8} {E : DiskS} {k2 : Nm} (hE : (D.append k data).2.sync k2 = (0, E)) : E.Ok := by
  have := (h.append k data).sync k2
  rw [hE] at this; exact this
/-- Records laid down behind the last segment, which is there or is new. -/
theorem lay_live {S0 S : List Seg} {D : DiskS} (hS : SD S0 D) (hg : S = S0 ∨ (S = next S0 ∧ S0.length < 20)) (h : Hrd) (tell : Bool) (ps : List (List UInt8)) :
    (layE S D h tell ps = 6 ∧ layS S D h tell ps = S ∧ layD S D h tell ps = D ∧ D.most < (DiskS.total D.files : Int) + (layT S h tell ps).length) ∨
    (layE S D h tell ps = 0 ∧ layS S D h tell ps = grown S h tell ps ∧ SD (grown S h tell ps) (layD S D h tell ps) ∧ DiskS.total (layD S D h tell ps).files = DiskS.total D.files + (layT S h tell ps).length ∧ (layD S D h tell ps).most = D.most) := by
  generalize hT : layT S h tell ps = T
  have key : ∃ (A : List Seg) (q : Seg) (B : List (Nm × FileS)) (f0 : FileS), S = A ++ [q] ∧ A.length < 20 ∧ q.number = (A.length : Int) + 1 ∧ (∀ (i : Nat) (s : Seg), A[i]? = some s → s.number = (i : Int) + 1) ∧ B.map (fun p => (p.1, (p.2.bytes.length : Int))) = A.map (fun s => (segFile s, s.size)) ∧ segFile q ∉ B.map (·.1) ∧ (f0.bytes.length : Int) = q.size ∧ DiskS.total B + f0.bytes.length = DiskS.total D.files ∧
      D.append (segFile q) T = if D.most < (DiskS.total D.files : Int) + T.length then (6, D) else (0, { D with files := B ++ [(segFile q, ⟨f0.bytes ++ T, f0.synced⟩)] }) := by
    rcases hg with rfl | ⟨rfl, h20⟩
    · obtain ⟨A, q, rfl⟩ := ne_end hS.ne
      have hnum := hS.numEnd
      have hA : ∀ (i : Nat) (s : Seg), A[i]? = some s → s.number = (i : Int) + 1 := fun i s hs => hS.num i s (by
        rw [List.getElem?_append_left (by rcases Nat.lt_or_ge i A.length with h | h; exact h; rw [List.getElem?_eq_none h] at hs; cases hs)]; exact hs)
      have hc := hS.cnt
      rw [List.length_append] at hc
      simp only [List.length_cons, List.length_nil] at hc
      have hf := hS.files
      rw [List.map_append, List.map_eq_append_iff] at hf
      obtain ⟨B, C, hBC, hB, hC⟩ := hf
      rw [List.map_cons, List.map_nil, List.map_eq_cons_iff] at hC
      obtain ⟨⟨k, f⟩, C', rfl, hk, hC'⟩ := hC
      rw [List.map_eq_nil_iff] at hC'
      subst hC'
      simp only [Prod.mk.injEq] at hk
      obtain ⟨rfl, hsz⟩ := hk
      have hnot : segFile q ∉ B.map (·.1) := by rw [keys_of hB]; exact segFile_notin hA (by omega) hnum
      refine ⟨A, q, B, f, rfl, by omega, hnum, hA, hB, hnot, hsz, ?_, ?_⟩
      · rw [hBC, total_append]; simp [DiskS.total]
      · exact app_old hS.dead hS.fuse hBC hnot (segFile_ok hnum (by omega)) T
    · obtain ⟨A, q, rfl⟩ := ne_end hS.ne
      have hnum := hS.numEnd
      have hnew : (⟨(lastS (A ++ [q])).number + 1, 0, 0⟩ : Seg).number = ((A ++ [q]).length : Int) + 1 := by
        rw [lastS_end]; simp [hnum]
      have hnot : segFile ⟨(lastS (A ++ [q])).number + 1, 0, 0⟩ ∉ D.files.map (·.1) := by
        rw [keys_of hS.files]; exact segFile_notin hS.num (by omega) hnew
      refine ⟨A ++ [q], ⟨(lastS (A ++ [q])).number + 1, 0, 0⟩, D.files, .none, rfl, h20, hnew, hS.num, hS.files, hnot, rfl, rfl, ?_⟩
      have hl : D.files.length = (A ++ [q]).length := by have := congrArg List.length hS.files; simpa using this
      exact app_new hS.dead hS.fuse hnot (segFile_ok hnew (by omega)) (by omega) T
  obtain ⟨A, q, B, f0, rfl, hAl, hnum, hA, hB, hnot, hsz, htot, happ⟩ := key
  have hlast := lastS_end A q
  have hlA : layA (A ++ [q]) D h tell ps = if D.most < (DiskS.total D.files : Int) + T.length then (6, D) else (0, { D with files := B ++ [(segFile q, ⟨f0.bytes ++ T, f0.synced⟩)] }) := by
    unfold layA; rw [hT, hlast, happ]
  by_cases hful : D.most < (DiskS.total D.files : Int) + T.length
  · rw [if_pos hful] at hlA
    left
    refine ⟨?_, ?_, ?_, hful⟩ <;> simp [layE, layS, layD, hlA]
  · rw [if_neg hful] at hlA
    right
    have hsync := sync_end (D := { D with files := B ++ [(segFile q, ⟨f0.bytes ++ T, f0.synced⟩)] }) hS.dead hS.fuse rfl hnot
    have hD : layD (A ++ [q]) D h tell ps = { D with files := B ++ [(segFile q, ⟨f0.bytes ++ T, (f0.bytes ++ T).length⟩)] } := by
      unfold layD; rw [hlA, hlast]; simp only [ne_eq, not_true, if_false]; rw [hsync]
    have hG : grown (A ++ [q]) h tell ps = A ++ [{ q with size := q.size + T.length }] := by
      unfold grown; rw [hT, hlast, setLast_end]
    refine ⟨?_, ?_, ?_, ?_, ?_⟩
    · unfold layE; rw [hlA, hlast]; simp only [ne_eq, not_true, if_false]; rw [hsync]
    · unfold layS; rw [hlA]; simp
    · rw [hG]
      have hok := (hS.ok.append (segFile q) T).sync (segFile q)
      rw [happ, if_neg hful, hsync] at hok
      rw [hD]
      refine { ok := hok, dead := hS.dead, fuse := hS.fuse, ne := by simp, cnt := by simp; omega, num := fun i s hs => ?_, files := ?_ }
      · rcases Nat.lt_or_ge i A.length with hi | hi
        · rw [List.getElem?_append_left hi] at hs; exact hA i s hs
        · rw [List.getElem?_append_right hi] at hs
          rcases Nat.eq_or_lt_of_le hi with he | hlt
          · rw [← he] at hs; simp at hs; subst hs; rw [← he]; exact hnum
          · rw [List.getElem?_eq_none (by simp; omega)] at hs; cases hs
      · simp only [List.map_append, hB, List.map_cons, List.map_nil, List.append_cancel_left_eq, List.cons.injEq, and_true, Prod.mk.injEq]
        refine ⟨rfl, ?_⟩
        rw [List.length_append]; omega
    · rw [hD, ← htot]; dsimp only; rw [total_append, total_cons]; simp only [List.length_append, DiskS.total, List.map_nil, List.sum_nil]; omega
    · rw [hD]
theorem frames_pos {ps : List (List UInt8)} (h : ps ≠ []) : 0 < (frames ps).length := by
  cases ps with
  | nil => exact absurd rfl h
  | cons p ps => simp only [frames, List.flatMap_cons, List.length_append, frame_length]; omega
end Go.Proofs.YtaeefjcbmkiiaaaGreatDoor
/- The log: records laid down. -/
namespace Go.Proofs.YtaeefjcbmkiiaaaGreatDoor
open Go Sl
attribute [local irreducible] J JR JS RO CR Arr Sat Tr sat blk
set_option linter.unusedVariables false
set_option maxHeartbeats 400000
set_option maxRecDepth 4000
theorem Frame1_tr (s : List UInt8) (hs : s.length ≤ 65536) : Tr Tryz.prog 85 [vs s] [] fun r Γ => r = .tuple #[vs (frame s), .int .i64 0] ∧ Γ = [] :=
  (Frame_tr s (by omega)).post fun r Γ ⟨h1, h2⟩ B F w hS => ⟨Γ, ⟨by rw [h1, if_pos hs], h2⟩, hS⟩
theorem lastS_setLast {S : List Seg} (h : S ≠ []) (q : Seg) : lastS (setLast S q) = q := by
  obtain ⟨A, r, rfl⟩ := ne_end h
  rw [setLast_end, lastS_end]
theorem setLast_length (S : List Seg) (q : Seg) : (setLast S q).length = S.length := by simp [setLast]
theorem frames_take {ps : List (List UInt8)} {i : Nat} (h : i < ps.length) : frames (ps.take (i + 1)) = frames (ps.take i) ++ frame (ps.getD i []) := by
  rw [List.take_succ_eq_append_getElem h, frames, List.flatMap_append, List.getD_eq_getElem?_getD, List.getElem?_eq_getElem h]
  simp [frames]
theorem frames_len {ps : List (List UInt8)} (h : ∀ p ∈ ps, p.length ≤ 65536) : (frames ps).length ≤ 65544 * ps.length := by
  induction ps with
  | nil => simp [frames]
  | cons p ps ih =>
    have := h p (List.mem_cons_self ..)
    have := ih fun q hq => h q (List.mem_cons_of_mem _ hq)
    simp only [frames, List.flatMap_cons, List.length_append, frame_length, List.length_cons] at this ⊢
    omega
theorem hardText_len {h : Hrd} (hh : h.In) : 1 ≤ (hardText h).length ∧ (hardText h).length ≤ 30 := by
  have h1 := encInt_length (n := 1) (by decide) (by decide)
  have h2 := encInt_length hh.t.1 hh.t.2
  have h3 := encInt_length hh.v.1 hh.v.2
  simp only [hardText, encInts, List.flatMap_cons, List.flatMap_nil, List.length_append, List.append_nil]
  omega
theorem lay1_tr (w d m : Nat) (h0 : Hrd) (ev sv pv : Value) (S : List Seg) (D : DiskS) (hD : D.Ok) (h : Hrd) (hh : h.In) (tell : Bool) (ps : List (List UInt8)) (hps : ∀ p ∈ ps, p.length ≤ 65536) (hpl : ps.length ≤ 100) (hS : S ≠ []) (hSl : S.length ≤ 100000) (hn0 : 0 ≤ (lastS S).number) (hn1 : (lastS S).number < 100) (hz0 : 0 ≤ (lastS S).size) (hz1 : (lastS S).size ≤ 100000000) (hcond : tell = true ∨ (lastS S).size = 0) :
    Tr Tryz.prog 50 [.pointer (some ⟨w, 0, none⟩), hrdV h, .bool tell, pv] [blk w (lcell d h0 ev sv), sl 94 segE sv S, blk d (dcell m D), mp fmap m D.files, sl 9 strE pv ps]
      fun v Γ => v = .int .i64 (layE S D h tell ps) ∧ Γ = [blk w (lcell d h0 ev sv), sl 94 segE sv (layS S D h tell ps), blk d (dcell m (layD S D h tell ps)), mp fmap m (layD S D h tell ps).files] := by
  have hS0 : 0 < S.length := List.length_pos_iff.2 hS
  have hHT := hardText_len hh
  have hS1 : (((S.length : Nat) : Int) - 1).toNat < S.length := by omega
  obtain ⟨qv0, hqv0⟩ : ∃ v : Value, v = pv := ⟨_, rfl⟩
  refine Tr_of_J Tryz.func50 follows rfl Tryz.ntmps50 (by simp) fun B F => ?_
  repeat' (first | (refine cl (hardText_tr h hh) ?_; rintro r Γ' ⟨rfl, rfl⟩; refine n0 ?_) | refine bsl (e := strE) (X := [hardText h]) (fun v2 => ?_) (.cona rfl rfl .nil) | refine apo rfl rfl (fun v3 => ?_) (by simp; omega) (by simp; omega) | refine mv ?_ | refine asn ?_ | refine jn ?_ | refine nl ?_ | refine ld rfl ?_ | refine nc ?_ | refine f0 ?_ | refine xt2 ?_ | refine sq ?_ | refine rg ?_ | refine lnb ?_ | refine lls rfl ?_ | refine ad ?_ | refine sb ?_ | refine lss ?_ | refine eql ?_ | refine neq ?_ | refine gtr ?_ | refine geq ?_ | refine leq ?_ | refine nt ?_ | refine pen ?_ | refine pnn ?_ | refine p1 ?_ | refine p0 ?_ | refine sk2 ?_ | refine kp ?_ | refine ct ?_ | refine cf ?_ | (refine cd (fun hc => ?_) (fun hc => ?_) <;> try (exfalso; omega)) | (refine cn (fun hc => ?_) (fun hc => ?_) <;> try (exfalso; omega)) | refine bl ?_ | refine ib ?_ | refine xt ?_ | refine bx (fun b_ => ?_) | refine al (fun b_ => ?_) | refine sr rfl ?_ | refine la rfl ?_ | refine ixa rfl rfl ?_ | refine fe ?_ | refine lde rfl ?_ | refine lae rfl ?_ | refine fa ?_ | refine bld ?_ | refine mf2 ?_ | refine seq ?_ | refine sne ?_ | refine cc ?_ | refine ixb ?_ | refine slb ?_ | refine slbl ?_ | refine slbh ?_ | refine cv ?_ | refine mx ?_ | refine mn ?_ | refine ml ?_ | refine af_ ?_ | (refine gd (fun hc => ?_) (fun hc => ?_) <;> try (exfalso; omega)) | (refine gn (fun hc => ?_) (fun hc => ?_) <;> try (exfalso; omega)) | refine aw ?_ | refine pes ?_ | refine pns ?_ | refine sw ?_ | refine ng ?_ | refine aeq ?_ | refine ane ?_ | refine sli rfl ?_ | refine slil rfl ?_ | refine slih rfl ?_ | refine cb (fun hc => ?_) (fun hc => ?_) | refine gs (fun hc => ?_) (fun hc => ?_) | refine J_draw (id := 1) [(0, true, []), (1, true, []), (2, true, []), (3, true, []), (4, true, []), (5, true, []), (6, true, []), (7, true, []), (8, true, []), (9, true, []), (10, true, []), (11, true, [])] (by kernel_rfl) ?_ | refine J_draw (id := 13) [(0, true, []), (1, true, []), (2, true, []), (3, true, []), (4, true, []), (5, true, []), (6, true, []), (7, false, [0, 1, 2, 3]), (8, false, [0, 1, 2, 3]), (9, false, []), (10, true, [])] (by kernel_rfl) ?_ | refine J_draw (id := 16) [(0, true, []), (1, true, []), (2, true, []), (3, true, []), (4, false, [0, 1, 2, 3]), (5, true, []), (6, true, []), (7, true, []), (8, false, [])] (by kernel_rfl) ?_ | refine J_draw (id := 17) [(0, true, []), (1, true, []), (2, true, []), (3, true, []), (4, true, []), (5, true, []), (6, true, []), (7, false, [0, 1, 2, 3]), (8, false, []), (9, true, [])] (by kernel_rfl) ?_ | refine JS_cons rfl rfl (RO_move rfl) ?_ | refine JS_cons rfl rfl (RO_nilCheck rfl) ?_ | refine JS_cons rfl rfl (RO_fieldAddr0 rfl) ?_ | refine JS_cons rfl rfl (RO_load rfl (by rfl)) ?_ | refine JS_off rfl ?_ | refine JS_cons rfl rfl (RO_extract rfl rfl) ?_ | refine JS_cons rfl rfl (RO_not rfl) ?_ | refine JS_cons rfl rfl (RO_fieldAddr rfl) ?_ | refine JS_cons rfl rfl (RO_lnb rfl) ?_ | refine JS_cons rfl rfl (RO_lls rfl) ?_ | refine JS_cons rfl rfl (RO_add_in rfl rfl (by omega)) ?_ | refine JS_cons rfl rfl (RO_sub_in rfl rfl (by omega)) ?_ | refine JS_cons rfl rfl (RO_ixa rfl rfl (by omega)) ?_ | refine JS_cons rfl rfl (RO_fe rfl) ?_ | refine JS_cons rfl rfl (RO_lde rfl (by omega) rfl) ?_ | refine JS_cons rfl rfl (RO_slih rfl rfl (by omega)) ?_ | refine JS_cons rfl rfl (RO_slil rfl rfl (by omega)) ?_ | refine JS_offu rfl ?_ | refine JS_cons rfl rfl (RO_cc rfl rfl (by omega)) ?_ | refine JS_cons rfl rfl (RO_bld rfl (by (repeat (first | exact FillS.nil | (apply FillS.cons; rfl; rfl; constructor; rfl; (focus repeat constructor)))))) ?_ | refine JS_cons rfl rfl (RO_lae rfl (by omega) (by repeat constructor)) ?_ | refine JS_cons rfl rfl (RO_loadAgg rfl (by repeat constructor)) ?_)
  all_goals first | (exfalso; rcases hcond with hx | hx; (· simp_all; done); (· exact absurd hx (by assumption))) | skip
  all_goals
    rename_i b_
    have hQ : told S h tell ps = [hardText h] ++ ps := if_pos hcond
    generalize hqv : v3 = qv
    clear hqv
    generalize [hardText h] ++ ps = Q at hQ ⊢
    have hQl : Q.length ≤ 101 := by (have : Q.length ≤ ps.length + 1 := by rw [← hQ]; unfold told; split <;> simp); omega
    have hQp : ∀ p ∈ Q, p.length ≤ 65536 := by
      rw [← hQ]; unfold told
      by_cases hx : tell = true ∨ (lastS S).size = 0
      · rw [if_pos hx]
        intro p hp
        rcases List.mem_cons.1 hp with rfl | hp
        · omega
        · exact hps p hp
      · rw [if_neg hx]; exact hps
    have hFl := frames_len hQp
    have hFt : ∀ i, (frames (Q.take i)).length ≤ 65544 * 101 := fun i => by
      have := @frames_len (Q.take i) fun p hp => hQp p (List.mem_of_mem_take hp)
      rw [List.length_take] at this; omega
    have hT : layT S h tell ps = frames Q := by unfold layT; rw [hQ]
    refine J_sat (Γ' := sl 5 byteE (.slice none 0 0) [] :: _) ?_ fun w hS => sl_nil hS
    refine lp (α := Nat × Int × Value × Value × List UInt8) (fun y => [(0, .pointer (some ⟨w, 0, none⟩)), (9, .pointer (some ⟨vb sv, el (vo sv) (((S.length : Nat) : Int) - 1).toNat segE.sz 0, none⟩)), (10, .pointer (some ⟨b_, 0, none⟩)), (40, qv), (41, .int .i64 Q.length), (42, .int .i64 y.2.1)]) (fun y => [sl 9 strE qv Q, blk b_ (bcell 143 y.2.2.1 y.2.2.2.1), sl 5 byteE y.2.2.2.1 y.2.2.2.2, blk w (lcell d h0 ev sv), sl 94 segE sv S, blk d (dcell m D), mp fmap m D.files]) (fun y => y.2.1 = (y.1 : Int) ∧ y.1 ≤ Q.length ∧ BP b_ y.2.2.1 ∧ y.2.2.2.2 = frames (Q.take y.1)) (fun y => Q.length - y.1) (0, 0, .pointer none, .slice none 0 0, []) ?_ ⟨rfl, Nat.zero_le _, .inl rfl, rfl⟩
    rintro ⟨i, n, p1, v1, T⟩ ⟨hn, hi, hp1, hW⟩ again
    dsimp only at hn hi hp1 hW again ⊢
    subst hn
    have hTl : T.length ≤ 65544 * 101 := by rw [hW]; exact hFt i
    have hgd : i < Q.length → (Q.getD i []).length ≤ 65536 := fun h => by
      rw [List.getD_eq_getElem?_getD, List.getElem?_eq_getElem h]; exact hQp _ (List.getElem_mem h)
    refine J_fact (p := ∃ q cap, v1 = .slice q T.length cap) (fun w hS => ?_) fun ⟨q, cap, hv1⟩ => ?_
    · rcases sl_cases (hS.perm (List.perm_middle (l₁ := [_, _]))) with ⟨h1, h2⟩ | ⟨g, cap, h1, _⟩
      · exact ⟨none, 0, by rw [h1, h2]; rfl⟩
      · exact ⟨_, cap, h1⟩
    subst hv1
    repeat' (first | (refine cl (Frame1_tr (Q.getD i []) (hgd (by omega))) ?_; rintro r Γ' ⟨rfl, rfl⟩; refine n0 ?_) | (refine cl (wstr_tr 143 b_ p1 (.slice q T.length cap) hp1 T (frame (Q.getD i [])) (by rw [frame_length]; have := hgd (by omega); omega)) ?_; rintro r Γ' ⟨v2, rfl⟩; refine n2 ?_) | (refine cl (segName_tr (lastS S) hn0 hn1) ?_; rintro r Γ' ⟨rfl, rfl⟩; refine n0 ?_) | refine mv ?_ | refine asn ?_ | refine jn ?_ | refine nl ?_ | refine ld rfl ?_ | refine nc ?_ | refine f0 ?_ | refine xt2 ?_ | refine sq ?_ | refine rg ?_ | refine lnb ?_ | refine lls rfl ?_ | refine ad ?_ | refine sb ?_ | refine lss ?_ | refine eql ?_ | refine neq ?_ | refine gtr ?_ | refine geq ?_ | refine leq ?_ | refine nt ?_ | refine pen ?_ | refine pnn ?_ | refine p1 ?_ | refine p0 ?_ | refine sk2 ?_ | refine kp ?_ | refine ct ?_ | refine cf ?_ | (refine cd (fun hc => ?_) (fun hc => ?_) <;> try (exfalso; omega)) | (refine cn (fun hc => ?_) (fun hc => ?_) <;> try (exfalso; omega)) | refine bl ?_ | refine ib ?_ | refine xt ?_ | refine bx (fun b_ => ?_) | refine al (fun b_ => ?_) | refine sr rfl ?_ | refine la rfl ?_ | refine ixa rfl rfl ?_ | refine fe ?_ | refine lde rfl ?_ | refine lae rfl ?_ | refine fa ?_ | refine bld ?_ | refine mf2 ?_ | refine seq ?_ | refine sne ?_ | refine cc ?_ | refine ixb ?_ | refine slb ?_ | refine slbl ?_ | refine slbh ?_ | refine cv ?_ | refine mx ?_ | refine mn ?_ | refine ml ?_ | refine af_ ?_ | (refine gd (fun hc => ?_) (fun hc => ?_) <;> try (exfalso; omega)) | (refine gn (fun hc => ?_) (fun hc => ?_) <;> try (exfalso; omega)) | refine aw ?_ | refine pes ?_ | refine pns ?_ | refine sw ?_ | refine ng ?_ | refine aeq ?_ | refine ane ?_ | refine sli rfl ?_ | refine slil rfl ?_ | refine slih rfl ?_ | refine cb (fun hc => ?_) (fun hc => ?_) | refine gs (fun hc => ?_) (fun hc => ?_) | refine J_draw (id := 1) [(0, true, []), (1, true, []), (2, true, []), (3, true, []), (4, true, []), (5, true, []), (6, true, []), (7, true, []), (8, true, []), (9, true, []), (10, true, []), (11, true, [])] (by kernel_rfl) ?_ | refine J_draw (id := 13) [(0, true, []), (1, true, []), (2, true, []), (3, true, []), (4, true, []), (5, true, []), (6, true, []), (7, false, [0, 1, 2, 3]), (8, false, [0, 1, 2, 3]), (9, false, []), (10, true, [])] (by kernel_rfl) ?_ | refine J_draw (id := 16) [(0, true, []), (1, true, []), (2, true, []), (3, true, []), (4, false, [0, 1, 2, 3]), (5, true, []), (6, true, []), (7, true, []), (8, false, [])] (by kernel_rfl) ?_ | refine J_draw (id := 17) [(0, true, []), (1, true, []), (2, true, []), (3, true, []), (4, true, []), (5, true, []), (6, true, []), (7, false, [0, 1, 2, 3]), (8, false, []), (9, true, [])] (by kernel_rfl) ?_ | refine JS_cons rfl rfl (RO_move rfl) ?_ | refine JS_cons rfl rfl (RO_nilCheck rfl) ?_ | refine JS_cons rfl rfl (RO_fieldAddr0 rfl) ?_ | refine JS_cons rfl rfl (RO_load rfl (by rfl)) ?_ | refine JS_off rfl ?_ | refine JS_cons rfl rfl (RO_extract rfl rfl) ?_ | refine JS_cons rfl rfl (RO_not rfl) ?_ | refine JS_cons rfl rfl (RO_fieldAddr rfl) ?_ | refine JS_cons rfl rfl (RO_lnb rfl) ?_ | refine JS_cons rfl rfl (RO_lls rfl) ?_ | refine JS_cons rfl rfl (RO_add_in rfl rfl (by omega)) ?_ | refine JS_cons rfl rfl (RO_sub_in rfl rfl (by omega)) ?_ | refine JS_cons rfl rfl (RO_ixa rfl rfl (by omega)) ?_ | refine JS_cons rfl rfl (RO_fe rfl) ?_ | refine JS_cons rfl rfl (RO_lde rfl (by omega) rfl) ?_ | refine JS_cons rfl rfl (RO_slih rfl rfl (by omega)) ?_ | refine JS_cons rfl rfl (RO_slil rfl rfl (by omega)) ?_ | refine JS_offu rfl ?_ | refine JS_cons rfl rfl (RO_cc rfl rfl (by omega)) ?_ | refine JS_cons rfl rfl (RO_bld rfl (by (repeat (first | exact FillS.nil | (apply FillS.cons; rfl; rfl; constructor; rfl; (focus repeat constructor)))))) ?_ | refine JS_cons rfl rfl (RO_lae rfl (by omega) (by repeat constructor)) ?_ | refine JS_cons rfl rfl (RO_loadAgg rfl (by repeat constructor)) ?_)
    · have hi' : i < Q.length := by omega
      exact ag (again (i + 1, (i : Int) + 1, .pointer (some ⟨b_, 0, none⟩), v2, T ++ frame (Q.getD i [])) ⟨by dsimp only; omega, hi', .inr rfl, by dsimp only; rw [hW, frames_take hi']⟩ (by dsimp only; omega))
    · have hil : i = Q.length := by omega
      rw [hil, List.take_length, ← hT] at hW
      subst hW
      have hTl' : (layT S h tell ps).length ≤ 65544 * 101 := hTl
      have hne : layT S h tell ps ≠ [] := by
        rw [hT]; intro he
        have := @frames_pos Q (by rw [← hQ]; unfold told; rw [if_pos hcond]; simp)
        rw [he] at this; exact absurd this (by simp)
      have hz0' : 0 ≤ (S.getD (((S.length : Nat) : Int) - 1).toNat segE.dflt).size := hz0
      have hz1' : (S.getD (((S.length : Nat) : Int) - 1).toNat segE.dflt).size ≤ 100000000 := hz1
      have hnl : (segFile (lastS S)).length ≤ 100000 := Nat.le_trans (segName_le (by omega)) (by decide)
      repeat' (first | (refine cl (str_tr 143 b_ p1 (.slice q (layT S h tell ps).length cap) (layT S h tell ps) hne) ?_; rintro r Γ' ⟨rfl, rfl⟩; refine n1 ?_) | (refine cl (append_tr d m D hD (segFile (lastS S)) (layT S h tell ps) hnl (by omega)) ?_; rintro r Γ' ⟨rfl, rfl⟩; refine n2 ?_) | (refine cl (len_tr 143 b_ p1 q (layT S h tell ps).length cap) ?_; rintro r Γ' ⟨rfl, rfl⟩; refine n1 ?_) | refine mv ?_ | refine asn ?_ | refine jn ?_ | refine nl ?_ | refine ld rfl ?_ | refine nc ?_ | refine f0 ?_ | refine xt2 ?_ | refine sq ?_ | refine rg ?_ | refine lnb ?_ | refine lls rfl ?_ | refine ad ?_ | refine sb ?_ | refine lss ?_ | refine eql ?_ | refine neq ?_ | refine gtr ?_ | refine geq ?_ | refine leq ?_ | refine nt ?_ | refine pen ?_ | refine pnn ?_ | refine p1 ?_ | refine p0 ?_ | refine sk2 ?_ | refine kp ?_ | refine ct ?_ | refine cf ?_ | (refine cd (fun hc => ?_) (fun hc => ?_) <;> try (exfalso; omega)) | (refine cn (fun hc => ?_) (fun hc => ?_) <;> try (exfalso; omega)) | refine bl ?_ | refine ib ?_ | refine xt ?_ | refine bx (fun b_ => ?_) | refine al (fun b_ => ?_) | refine sr rfl ?_ | refine la rfl ?_ | refine ixa rfl rfl ?_ | refine fe ?_ | refine lde rfl ?_ | refine lae rfl ?_ | refine fa ?_ | refine bld ?_ | refine mf2 ?_ | refine seq ?_ | refine sne ?_ | refine cc ?_ | refine ixb ?_ | refine slb ?_ | refine slbl ?_ | refine slbh ?_ | refine cv ?_ | refine mx ?_ | refine mn ?_ | refine ml ?_ | refine af_ ?_ | (refine gd (fun hc => ?_) (fun hc => ?_) <;> try (exfalso; omega)) | (refine gn (fun hc => ?_) (fun hc => ?_) <;> try (exfalso; omega)) | refine aw ?_ | refine pes ?_ | refine pns ?_ | refine sw ?_ | refine ng ?_ | refine aeq ?_ | refine ane ?_ | refine sli rfl ?_ | refine slil rfl ?_ | refine slih rfl ?_ | refine cb (fun hc => ?_) (fun hc => ?_) | refine gs (fun hc => ?_) (fun hc => ?_) | refine J_draw (id := 1) [(0, true, []), (1, true, []), (2, true, []), (3, true, []), (4, true, []), (5, true, []), (6, true, []), (7, true, []), (8, true, []), (9, true, []), (10, true, []), (11, true, [])] (by kernel_rfl) ?_ | refine J_draw (id := 13) [(0, true, []), (1, true, []), (2, true, []), (3, true, []), (4, true, []), (5, true, []), (6, true, []), (7, false, [0, 1, 2, 3]), (8, false, [0, 1, 2, 3]), (9, false, []), (10, true, [])] (by kernel_rfl) ?_ | refine J_draw (id := 16) [(0, true, []), (1, true, []), (2, true, []), (3, true, []), (4, false, [0, 1, 2, 3]), (5, true, []), (6, true, []), (7, true, []), (8, false, [])] (by kernel_rfl) ?_ | refine J_draw (id := 17) [(0, true, []), (1, true, []), (2, true, []), (3, true, []), (4, true, []), (5, true, []), (6, true, []), (7, false, [0, 1, 2, 3]), (8, false, []), (9, true, [])] (by kernel_rfl) ?_ | refine JS_cons rfl rfl (RO_move rfl) ?_ | refine JS_cons rfl rfl (RO_nilCheck rfl) ?_ | refine JS_cons rfl rfl (RO_fieldAddr0 rfl) ?_ | refine JS_cons rfl rfl (RO_load rfl (by rfl)) ?_ | refine JS_off rfl ?_ | refine JS_cons rfl rfl (RO_extract rfl rfl) ?_ | refine JS_cons rfl rfl (RO_not rfl) ?_ | refine JS_cons rfl rfl (RO_fieldAddr rfl) ?_ | refine JS_cons rfl rfl (RO_lnb rfl) ?_ | refine JS_cons rfl rfl (RO_lls rfl) ?_ | refine JS_cons rfl rfl (RO_add_in rfl rfl (by omega)) ?_ | refine JS_cons rfl rfl (RO_sub_in rfl rfl (by omega)) ?_ | refine JS_cons rfl rfl (RO_ixa rfl rfl (by omega)) ?_ | refine JS_cons rfl rfl (RO_fe rfl) ?_ | refine JS_cons rfl rfl (RO_lde rfl (by omega) rfl) ?_ | refine JS_cons rfl rfl (RO_slih rfl rfl (by omega)) ?_ | refine JS_cons rfl rfl (RO_slil rfl rfl (by omega)) ?_ | refine JS_offu rfl ?_ | refine JS_cons rfl rfl (RO_cc rfl rfl (by omega)) ?_ | refine JS_cons rfl rfl (RO_bld rfl (by (repeat (first | exact FillS.nil | (apply FillS.cons; rfl; rfl; constructor; rfl; (focus repeat constructor)))))) ?_ | refine JS_cons rfl rfl (RO_lae rfl (by omega) (by repeat constructor)) ?_ | refine JS_cons rfl rfl (RO_loadAgg rfl (by repeat constructor)) ?_)
      · have hc1 : (layA S D h tell ps).1 ≠ 0 := by assumption
        have e1 : layE S D h tell ps = (layA S D h tell ps).1 := if_pos hc1
        have e2 : layS S D h tell ps = S := if_pos hc1
        have e3 : layD S D h tell ps = (layA S D h tell ps).2 := if_pos hc1
        rw [e1, e2, e3]
        refine rt ?_
        exact ⟨_, ⟨rfl, rfl⟩, _, by repeat constructor⟩
      · have hc1 : ¬ (layA S D h tell ps).1 ≠ 0 := by
          have : (layA S D h tell ps).1 = 0 := by assumption
          simp [this]
        have e1 : layE S D h tell ps = ((layA S D h tell ps).2.sync (segFile (lastS S))).1 := if_neg hc1
        have e2 : layS S D h tell ps = grown S h tell ps := if_neg hc1
        have e3 : layD S D h tell ps = ((layA S D h tell ps).2.sync (segFile (lastS S))).2 := if_neg hc1
        have hg : (grown S h tell ps).getD (((S.length : Nat) : Int) - 1).toNat .none = { lastS S with size := (lastS S).size + (layT S h tell ps).length } := by
          have := lastS_setLast hS { lastS S with size := (lastS S).size + (layT S h tell ps).length }
          unfold lastS at this
          rw [setLast_length] at this
          exact this
        have hgn0 : 0 ≤ ((grown S h tell ps).getD (((S.length : Nat) : Int) - 1).toNat .none).number := by rw [hg]; exact hn0
        have hgn1 : ((grown S h tell ps).getD (((S.length : Nat) : Int) - 1).toNat .none).number < 100 := by rw [hg]; exact hn1
        have hgf : segName ((grown S h tell ps).getD (((S.length : Nat) : Int) - 1).toNat .none).number.toNat = segFile (lastS S) := by rw [hg]; rfl
        repeat' (first | refine sre rfl ?_ | refine lae rfl ?_ (by rw [List.length_set]; omega) | (refine cl (segName_tr ((grown S h tell ps).getD (((S.length : Nat) : Int) - 1).toNat .none) hgn0 hgn1) ?_; rintro r Γ' ⟨rfl, rfl⟩; rw [hgf]; refine n0 ?_) | (refine cl (sync_tr d m (layA S D h tell ps).2 (hD.append _ _) (segFile (lastS S))) ?_; rintro r Γ' ⟨rfl, rfl⟩; refine n2 ?_) | refine mv ?_ | refine asn ?_ | refine jn ?_ | refine nl ?_ | refine ld rfl ?_ | refine nc ?_ | refine f0 ?_ | refine xt2 ?_ | refine sq ?_ | refine rg ?_ | refine lnb ?_ | refine lls rfl ?_ | refine ad ?_ | refine sb ?_ | refine lss ?_ | refine eql ?_ | refine neq ?_ | refine gtr ?_ | refine geq ?_ | refine leq ?_ | refine nt ?_ | refine pen ?_ | refine pnn ?_ | refine p1 ?_ | refine p0 ?_ | refine sk2 ?_ | refine kp ?_ | refine ct ?_ | refine cf ?_ | (refine cd (fun hc => ?_) (fun hc => ?_) <;> try (exfalso; omega)) | (refine cn (fun hc => ?_) (fun hc => ?_) <;> try (exfalso; omega)) | refine bl ?_ | refine ib ?_ | refine xt ?_ | refine bx (fun b_ => ?_) | refine al (fun b_ => ?_) | refine sr rfl ?_ | refine la rfl ?_ | refine ixa rfl rfl ?_ | refine fe ?_ | refine lde rfl ?_ | refine lae rfl ?_ | refine fa ?_ | refine bld ?_ | refine mf2 ?_ | refine seq ?_ | refine sne ?_ | refine cc ?_ | refine ixb ?_ | refine slb ?_ | refine slbl ?_ | refine slbh ?_ | refine cv ?_ | refine mx ?_ | refine mn ?_ | refine ml ?_ | refine af_ ?_ | (refine gd (fun hc => ?_) (fun hc => ?_) <;> try (exfalso; omega)) | (refine gn (fun hc => ?_) (fun hc => ?_) <;> try (exfalso; omega)) | refine aw ?_ | refine pes ?_ | refine pns ?_ | refine sw ?_ | refine ng ?_ | refine aeq ?_ | refine ane ?_ | refine sli rfl ?_ | refine slil rfl ?_ | refine slih rfl ?_ | refine cb (fun hc => ?_) (fun hc => ?_) | refine gs (fun hc => ?_) (fun hc => ?_) | refine J_draw (id := 1) [(0, true, []), (1, true, []), (2, true, []), (3, true, []), (4, true, []), (5, true, []), (6, true, []), (7, true, []), (8, true, []), (9, true, []), (10, true, []), (11, true, [])] (by kernel_rfl) ?_ | refine J_draw (id := 13) [(0, true, []), (1, true, []), (2, true, []), (3, true, []), (4, true, []), (5, true, []), (6, true, []), (7, false, [0, 1, 2, 3]), (8, false, [0, 1, 2, 3]), (9, false, []), (10, true, [])] (by kernel_rfl) ?_ | refine J_draw (id := 16) [(0, true, []), (1, true, []), (2, true, []), (3, true, []), (4, false, [0, 1, 2, 3]), (5, true, []), (6, true, []), (7, true, []), (8, false, [])] (by kernel_rfl) ?_ | refine J_draw (id := 17) [(0, true, []), (1, true, []), (2, true, []), (3, true, []), (4, true, []), (5, true, []), (6, true, []), (7, false, [0, 1, 2, 3]), (8, false, []), (9, true, [])] (by kernel_rfl) ?_ | refine JS_cons rfl rfl (RO_move rfl) ?_ | refine JS_cons rfl rfl (RO_nilCheck rfl) ?_ | refine JS_cons rfl rfl (RO_fieldAddr0 rfl) ?_ | refine JS_cons rfl rfl (RO_load rfl (by rfl)) ?_ | refine JS_off rfl ?_ | refine JS_cons rfl rfl (RO_extract rfl rfl) ?_ | refine JS_cons rfl rfl (RO_not rfl) ?_ | refine JS_cons rfl rfl (RO_fieldAddr rfl) ?_ | refine JS_cons rfl rfl (RO_lnb rfl) ?_ | refine JS_cons rfl rfl (RO_lls rfl) ?_ | refine JS_cons rfl rfl (RO_add_in rfl rfl (by omega)) ?_ | refine JS_cons rfl rfl (RO_sub_in rfl rfl (by omega)) ?_ | refine JS_cons rfl rfl (RO_ixa rfl rfl (by omega)) ?_ | refine JS_cons rfl rfl (RO_fe rfl) ?_ | refine JS_cons rfl rfl (RO_lde rfl (by omega) rfl) ?_ | refine JS_cons rfl rfl (RO_slih rfl rfl (by omega)) ?_ | refine JS_cons rfl rfl (RO_slil rfl rfl (by omega)) ?_ | refine JS_offu rfl ?_ | refine JS_cons rfl rfl (RO_cc rfl rfl (by omega)) ?_ | refine JS_cons rfl rfl (RO_bld rfl (by (repeat (first | exact FillS.nil | (apply FillS.cons; rfl; rfl; constructor; rfl; (focus repeat constructor)))))) ?_ | refine JS_cons rfl rfl (RO_lae rfl (by omega) (by repeat constructor)) ?_ | refine JS_cons rfl rfl (RO_loadAgg rfl (by repeat constructor)) ?_)
        rw [e1, e2, e3]
        refine rt ?_
        exact ⟨_, ⟨rfl, rfl⟩, _, by repeat constructor⟩
theorem lay2_tr (w d m : Nat) (h0 : Hrd) (ev sv pv : Value) (S : List Seg) (D : DiskS) (hD : D.Ok) (h : Hrd) (hh : h.In) (tell : Bool) (Q : List (List UInt8)) (hps : ∀ p ∈ Q, p.length ≤ 65536) (hpl : Q.length ≤ 100) (hS : S ≠ []) (hSl : S.length ≤ 100000) (hn0 : 0 ≤ (lastS S).number) (hn1 : (lastS S).number < 100) (hz0 : 0 ≤ (lastS S).size) (hz1 : (lastS S).size ≤ 100000000) (hcond : ¬ (tell = true ∨ (lastS S).size = 0)) (hps0 : Q ≠ []) :
    Tr Tryz.prog 50 [.pointer (some ⟨w, 0, none⟩), hrdV h, .bool tell, pv] [blk w (lcell d h0 ev sv), sl 94 segE sv S, blk d (dcell m D), mp fmap m D.files, sl 9 strE pv Q]
      fun v Γ => v = .int .i64 (layE S D h tell Q) ∧ Γ = [blk w (lcell d h0 ev sv), sl 94 segE sv (layS S D h tell Q), blk d (dcell m (layD S D h tell Q)), mp fmap m (layD S D h tell Q).files] := by
  have hS0 : 0 < S.length := List.length_pos_iff.2 hS
  have hHT := hardText_len hh
  have hS1 : (((S.length : Nat) : Int) - 1).toNat < S.length := by omega
  obtain ⟨qv0, hqv0⟩ : ∃ v : Value, v = pv := ⟨_, rfl⟩
  refine Tr_of_J Tryz.func50 follows rfl Tryz.ntmps50 (by simp) fun B F => ?_
  repeat' (first | (refine cl (hardText_tr h hh) ?_; rintro r Γ' ⟨rfl, rfl⟩; refine n0 ?_) | refine bsl (e := strE) (X := [hardText h]) (fun v2 => ?_) (.cona rfl rfl .nil) | refine apo rfl rfl (fun v3 => ?_) (by simp; omega) (by simp; omega) | refine mv ?_ | refine asn ?_ | refine jn ?_ | refine nl ?_ | refine ld rfl ?_ | refine nc ?_ | refine f0 ?_ | refine xt2 ?_ | refine sq ?_ | refine rg ?_ | refine lnb ?_ | refine lls rfl ?_ | refine ad ?_ | refine sb ?_ | refine lss ?_ | refine eql ?_ | refine neq ?_ | refine gtr ?_ | refine geq ?_ | refine leq ?_ | refine nt ?_ | refine pen ?_ | refine pnn ?_ | refine p1 ?_ | refine p0 ?_ | refine sk2 ?_ | refine kp ?_ | refine ct ?_ | refine cf ?_ | (refine cd (fun hc => ?_) (fun hc => ?_) <;> try (exfalso; omega)) | (refine cn (fun hc => ?_) (fun hc => ?_) <;> try (exfalso; omega)) | refine bl ?_ | refine ib ?_ | refine xt ?_ | refine bx (fun b_ => ?_) | refine al (fun b_ => ?_) | refine sr rfl ?_ | refine la rfl ?_ | refine ixa rfl rfl ?_ | refine fe ?_ | refine lde rfl ?_ | refine lae rfl ?_ | refine fa ?_ | refine bld ?_ | refine mf2 ?_ | refine seq ?_ | refine sne ?_ | refine cc ?_ | refine ixb ?_ | refine slb ?_ | refine slbl ?_ | refine slbh ?_ | refine cv ?_ | refine mx ?_ | refine mn ?_ | refine ml ?_ | refine af_ ?_ | (refine gd (fun hc => ?_) (fun hc => ?_) <;> try (exfalso; omega)) | (refine gn (fun hc => ?_) (fun hc => ?_) <;> try (exfalso; omega)) | refine aw ?_ | refine pes ?_ | refine pns ?_ | refine sw ?_ | refine ng ?_ | refine aeq ?_ | refine ane ?_ | refine sli rfl ?_ | refine slil rfl ?_ | refine slih rfl ?_ | refine cb (fun hc => ?_) (fun hc => ?_) | refine gs (fun hc => ?_) (fun hc => ?_) | refine J_draw (id := 1) [(0, true, []), (1, true, []), (2, true, []), (3, true, []), (4, true, []), (5, true, []), (6, true, []), (7, true, []), (8, true, []), (9, true, []), (10, true, []), (11, true, [])] (by kernel_rfl) ?_ | refine J_draw (id := 13) [(0, true, []), (1, true, []), (2, true, []), (3, true, []), (4, true, []), (5, true, []), (6, true, []), (7, false, [0, 1, 2, 3]), (8, false, [0, 1, 2, 3]), (9, false, []), (10, true, [])] (by kernel_rfl) ?_ | refine J_draw (id := 16) [(0, true, []), (1, true, []), (2, true, []), (3, true, []), (4, false, [0, 1, 2, 3]), (5, true, []), (6, true, []), (7, true, []), (8, false, [])] (by kernel_rfl) ?_ | refine J_draw (id := 17) [(0, true, []), (1, true, []), (2, true, []), (3, true, []), (4, true, []), (5, true, []), (6, true, []), (7, false, [0, 1, 2, 3]), (8, false, []), (9, true, [])] (by kernel_rfl) ?_ | refine JS_cons rfl rfl (RO_move rfl) ?_ | refine JS_cons rfl rfl (RO_nilCheck rfl) ?_ | refine JS_cons rfl rfl (RO_fieldAddr0 rfl) ?_ | refine JS_cons rfl rfl (RO_load rfl (by rfl)) ?_ | refine JS_off rfl ?_ | refine JS_cons rfl rfl (RO_extract rfl rfl) ?_ | refine JS_cons rfl rfl (RO_not rfl) ?_ | refine JS_cons rfl rfl (RO_fieldAddr rfl) ?_ | refine JS_cons rfl rfl (RO_lnb rfl) ?_ | refine JS_cons rfl rfl (RO_lls rfl) ?_ | refine JS_cons rfl rfl (RO_add_in rfl rfl (by omega)) ?_ | refine JS_cons rfl rfl (RO_sub_in rfl rfl (by omega)) ?_ | refine JS_cons rfl rfl (RO_ixa rfl rfl (by omega)) ?_ | refine JS_cons rfl rfl (RO_fe rfl) ?_ | refine JS_cons rfl rfl (RO_lde rfl (by omega) rfl) ?_ | refine JS_cons rfl rfl (RO_slih rfl rfl (by omega)) ?_ | refine JS_cons rfl rfl (RO_slil rfl rfl (by omega)) ?_ | refine JS_offu rfl ?_ | refine JS_cons rfl rfl (RO_cc rfl rfl (by omega)) ?_ | refine JS_cons rfl rfl (RO_bld rfl (by (repeat (first | exact FillS.nil | (apply FillS.cons; rfl; rfl; constructor; rfl; (focus repeat constructor)))))) ?_ | refine JS_cons rfl rfl (RO_lae rfl (by omega) (by repeat constructor)) ?_ | refine JS_cons rfl rfl (RO_loadAgg rfl (by repeat constructor)) ?_)
  all_goals first | (exfalso; exact hcond (.inl (by assumption))) | (exfalso; exact hcond (.inr (by assumption))) | skip
  all_goals
    rename_i b_
    have hQ : told S h tell Q = Q := if_neg hcond
    have hQl : Q.length ≤ 101 := by (have : Q.length ≤ Q.length + 1 := by rw [← hQ]; unfold told; split <;> simp); omega
    have hQp : ∀ p ∈ Q, p.length ≤ 65536 := by
      rw [← hQ]; unfold told
      by_cases hx : tell = true ∨ (lastS S).size = 0
      · rw [if_pos hx]
        intro p hp
        rcases List.mem_cons.1 hp with rfl | hp
        · omega
        · exact hps p hp
      · rw [if_neg hx]; exact hps
    have hFl := frames_len hQp
    have hFt : ∀ i, (frames (Q.take i)).length ≤ 65544 * 101 := fun i => by
      have := @frames_len (Q.take i) fun p hp => hQp p (List.mem_of_mem_take hp)
      rw [List.length_take] at this; omega
    have hT : layT S h tell Q = frames Q := by unfold layT; rw [hQ]
    refine J_sat (Γ' := sl 5 byteE (.slice none 0 0) [] :: _) ?_ fun w hS => sl_nil hS
    refine lp (α := Nat × Int × Value × Value × List UInt8) (fun y => [(0, .pointer (some ⟨w, 0, none⟩)), (9, .pointer (some ⟨vb sv, el (vo sv) (((S.length : Nat) : Int) - 1).toNat segE.sz 0, none⟩)), (10, .pointer (some ⟨b_, 0, none⟩)), (40, pv), (41, .int .i64 Q.length), (42, .int .i64 y.2.1)]) (fun y => [sl 9 strE pv Q, blk b_ (bcell 143 y.2.2.1 y.2.2.2.1), sl 5 byteE y.2.2.2.1 y.2.2.2.2, blk w (lcell d h0 ev sv), sl 94 segE sv S, blk d (dcell m D), mp fmap m D.files]) (fun y => y.2.1 = (y.1 : Int) ∧ y.1 ≤ Q.length ∧ BP b_ y.2.2.1 ∧ y.2.2.2.2 = frames (Q.take y.1)) (fun y => Q.length - y.1) (0, 0, .pointer none, .slice none 0 0, []) ?_ ⟨rfl, Nat.zero_le _, .inl rfl, rfl⟩
    rintro ⟨i, n, p1, v1, T⟩ ⟨hn, hi, hp1, hW⟩ again
    dsimp only at hn hi hp1 hW again ⊢
    subst hn
    have hTl : T.length ≤ 65544 * 101 := by rw [hW]; exact hFt i
    have hgd : i < Q.length → (Q.getD i []).length ≤ 65536 := fun h => by
      rw [List.getD_eq_getElem?_getD, List.getElem?_eq_getElem h]; exact hQp _ (List.getElem_mem h)
    refine J_fact (p := ∃ q cap, v1 = .slice q T.length cap) (fun w hS => ?_) fun ⟨q, cap, hv1⟩ => ?_
    · rcases sl_cases (hS.perm (List.perm_middle (l₁ := [_, _]))) with ⟨h1, h2⟩ | ⟨g, cap, h1, _⟩
      · exact ⟨none, 0, by rw [h1, h2]; rfl⟩
      · exact ⟨_, cap, h1⟩
    subst hv1
    repeat' (first | (refine cl (Frame1_tr (Q.getD i []) (hgd (by omega))) ?_; rintro r Γ' ⟨rfl, rfl⟩; refine n0 ?_) | (refine cl (wstr_tr 143 b_ p1 (.slice q T.length cap) hp1 T (frame (Q.getD i [])) (by rw [frame_length]; have := hgd (by omega); omega)) ?_; rintro r Γ' ⟨v2, rfl⟩; refine n2 ?_) | (refine cl (segName_tr (lastS S) hn0 hn1) ?_; rintro r Γ' ⟨rfl, rfl⟩; refine n0 ?_) | refine mv ?_ | refine asn ?_ | refine jn ?_ | refine nl ?_ | refine ld rfl ?_ | refine nc ?_ | refine f0 ?_ | refine xt2 ?_ | refine sq ?_ | refine rg ?_ | refine lnb ?_ | refine lls rfl ?_ | refine ad ?_ | refine sb ?_ | refine lss ?_ | refine eql ?_ | refine neq ?_ | refine gtr ?_ | refine geq ?_ | refine leq ?_ | refine nt ?_ | refine pen ?_ | refine pnn ?_ | refine p1 ?_ | refine p0 ?_ | refine sk2 ?_ | refine kp ?_ | refine ct ?_ | refine cf ?_ | (refine cd (fun hc => ?_) (fun hc => ?_) <;> try (exfalso; omega)) | (refine cn (fun hc => ?_) (fun hc => ?_) <;> try (exfalso; omega)) | refine bl ?_ | refine ib ?_ | refine xt ?_ | refine bx (fun b_ => ?_) | refine al (fun b_ => ?_) | refine sr rfl ?_ | refine la rfl ?_ | refine ixa rfl rfl ?_ | refine fe ?_ | refine lde rfl ?_ | refine lae rfl ?_ | refine fa ?_ | refine bld ?_ | refine mf2 ?_ | refine seq ?_ | refine sne ?_ | refine cc ?_ | refine ixb ?_ | refine slb ?_ | refine slbl ?_ | refine slbh ?_ | refine cv ?_ | refine mx ?_ | refine mn ?_ | refine ml ?_ | refine af_ ?_ | (refine gd (fun hc => ?_) (fun hc => ?_) <;> try (exfalso; omega)) | (refine gn (fun hc => ?_) (fun hc => ?_) <;> try (exfalso; omega)) | refine aw ?_ | refine pes ?_ | refine pns ?_ | refine sw ?_ | refine ng ?_ | refine aeq ?_ | refine ane ?_ | refine sli rfl ?_ | refine slil rfl ?_ | refine slih rfl ?_ | refine cb (fun hc => ?_) (fun hc => ?_) | refine gs (fun hc => ?_) (fun hc => ?_) | refine J_draw (id := 1) [(0, true, []), (1, true, []), (2, true, []), (3, true, []), (4, true, []), (5, true, []), (6, true, []), (7, true, []), (8, true, []), (9, true, []), (10, true, []), (11, true, [])] (by kernel_rfl) ?_ | refine J_draw (id := 13) [(0, true, []), (1, true, []), (2, true, []), (3, true, []), (4, true, []), (5, true, []), (6, true, []), (7, false, [0, 1, 2, 3]), (8, false, [0, 1, 2, 3]), (9, false, []), (10, true, [])] (by kernel_rfl) ?_ | refine J_draw (id := 16) [(0, true, []), (1, true, []), (2, true, []), (3, true, []), (4, false, [0, 1, 2, 3]), (5, true, []), (6, true, []), (7, true, []), (8, false, [])] (by kernel_rfl) ?_ | refine J_draw (id := 17) [(0, true, []), (1, true, []), (2, true, []), (3, true, []), (4, true, []), (5, true, []), (6, true, []), (7, false, [0, 1, 2, 3]), (8, false, []), (9, true, [])] (by kernel_rfl) ?_ | refine JS_cons rfl rfl (RO_move rfl) ?_ | refine JS_cons rfl rfl (RO_nilCheck rfl) ?_ | refine JS_cons rfl rfl (RO_fieldAddr0 rfl) ?_ | refine JS_cons rfl rfl (RO_load rfl (by rfl)) ?_ | refine JS_off rfl ?_ | refine JS_cons rfl rfl (RO_extract rfl rfl) ?_ | refine JS_cons rfl rfl (RO_not rfl) ?_ | refine JS_cons rfl rfl (RO_fieldAddr rfl) ?_ | refine JS_cons rfl rfl (RO_lnb rfl) ?_ | refine JS_cons rfl rfl (RO_lls rfl) ?_ | refine JS_cons rfl rfl (RO_add_in rfl rfl (by omega)) ?_ | refine JS_cons rfl rfl (RO_sub_in rfl rfl (by omega)) ?_ | refine JS_cons rfl rfl (RO_ixa rfl rfl (by omega)) ?_ | refine JS_cons rfl rfl (RO_fe rfl) ?_ | refine JS_cons rfl rfl (RO_lde rfl (by omega) rfl) ?_ | refine JS_cons rfl rfl (RO_slih rfl rfl (by omega)) ?_ | refine JS_cons rfl rfl (RO_slil rfl rfl (by omega)) ?_ | refine JS_offu rfl ?_ | refine JS_cons rfl rfl (RO_cc rfl rfl (by omega)) ?_ | refine JS_cons rfl rfl (RO_bld rfl (by (repeat (first | exact FillS.nil | (apply FillS.cons; rfl; rfl; constructor; rfl; (focus repeat constructor)))))) ?_ | refine JS_cons rfl rfl (RO_lae rfl (by omega) (by repeat constructor)) ?_ | refine JS_cons rfl rfl (RO_loadAgg rfl (by repeat constructor)) ?_)
    · have hi' : i < Q.length := by omega
      exact ag (again (i + 1, (i : Int) + 1, .pointer (some ⟨b_, 0, none⟩), v2, T ++ frame (Q.getD i [])) ⟨by dsimp only; omega, hi', .inr rfl, by dsimp only; rw [hW, frames_take hi']⟩ (by dsimp only; omega))
    · have hil : i = Q.length := by omega
      rw [hil, List.take_length, ← hT] at hW
      subst hW
      have hTl' : (layT S h tell Q).length ≤ 65544 * 101 := hTl
      have hne : layT S h tell Q ≠ [] := by
        rw [hT]; intro he
        have := @frames_pos Q hps0
        rw [he] at this; exact absurd this (by simp)
      have hz0' : 0 ≤ (S.getD (((S.length : Nat) : Int) - 1).toNat segE.dflt).size := hz0
      have hz1' : (S.getD (((S.length : Nat) : Int) - 1).toNat segE.dflt).size ≤ 100000000 := hz1
      have hnl : (segFile (lastS S)).length ≤ 100000 := Nat.le_trans (segName_le (by omega)) (by decide)
      repeat' (first | (refine cl (str_tr 143 b_ p1 (.slice q (layT S h tell Q).length cap) (layT S h tell Q) hne) ?_; rintro r Γ' ⟨rfl, rfl⟩; refine n1 ?_) | (refine cl (append_tr d m D hD (segFile (lastS S)) (layT S h tell Q) hnl (by omega)) ?_; rintro r Γ' ⟨rfl, rfl⟩; refine n2 ?_) | (refine cl (len_tr 143 b_ p1 q (layT S h tell Q).length cap) ?_; rintro r Γ' ⟨rfl, rfl⟩; refine n1 ?_) | refine mv ?_ | refine asn ?_ | refine jn ?_ | refine nl ?_ | refine ld rfl ?_ | refine nc ?_ | refine f0 ?_ | refine xt2 ?_ | refine sq ?_ | refine rg ?_ | refine lnb ?_ | refine lls rfl ?_ | refine ad ?_ | refine sb ?_ | refine lss ?_ | refine eql ?_ | refine neq ?_ | refine gtr ?_ | refine geq ?_ | refine leq ?_ | refine nt ?_ | refine pen ?_ | refine pnn ?_ | refine p1 ?_ | refine p0 ?_ | refine sk2 ?_ | refine kp ?_ | refine ct ?_ | refine cf ?_ | (refine cd (fun hc => ?_) (fun hc => ?_) <;> try (exfalso; omega)) | (refine cn (fun hc => ?_) (fun hc => ?_) <;> try (exfalso; omega)) | refine bl ?_ | refine ib ?_ | refine xt ?_ | refine bx (fun b_ => ?_) | refine al (fun b_ => ?_) | refine sr rfl ?_ | refine la rfl ?_ | refine ixa rfl rfl ?_ | refine fe ?_ | refine lde rfl ?_ | refine lae rfl ?_ | refine fa ?_ | refine bld ?_ | refine mf2 ?_ | refine seq ?_ | refine sne ?_ | refine cc ?_ | refine ixb ?_ | refine slb ?_ | refine slbl ?_ | refine slbh ?_ | refine cv ?_ | refine mx ?_ | refine mn ?_ | refine ml ?_ | refine af_ ?_ | (refine gd (fun hc => ?_) (fun hc => ?_) <;> try (exfalso; omega)) | (refine gn (fun hc => ?_) (fun hc => ?_) <;> try (exfalso; omega)) | refine aw ?_ | refine pes ?_ | refine pns ?_ | refine sw ?_ | refine ng ?_ | refine aeq ?_ | refine ane ?_ | refine sli rfl ?_ | refine slil rfl ?_ | refine slih rfl ?_ | refine cb (fun hc => ?_) (fun hc => ?_) | refine gs (fun hc => ?_) (fun hc => ?_) | refine J_draw (id := 1) [(0, true, []), (1, true, []), (2, true, []), (3, true, []), (4, true, []), (5, true, []), (6, true, []), (7, true, []), (8, true, []), (9, true, []), (10, true, []), (11, true, [])] (by kernel_rfl) ?_ | refine J_draw (id := 13) [(0, true, []), (1, true, []), (2, true, []), (3, true, []), (4, true, []), (5, true, []), (6, true, []), (7, false, [0, 1, 2, 3]), (8, false, [0, 1, 2, 3]), (9, false, []), (10, true, [])] (by kernel_rfl) ?_ | refine J_draw (id := 16) [(0, true, []), (1, true, []), (2, true, []), (3, true, []), (4, false, [0, 1, 2, 3]), (5, true, []), (6, true, []), (7, true, []), (8, false, [])] (by kernel_rfl) ?_ | refine J_draw (id := 17) [(0, true, []), (1, true, []), (2, true, []), (3, true, []), (4, true, []), (5, true, []), (6, true, []), (7, false, [0, 1, 2, 3]), (8, false, []), (9, true, [])] (by kernel_rfl) ?_ | refine JS_cons rfl rfl (RO_move rfl) ?_ | refine JS_cons rfl rfl (RO_nilCheck rfl) ?_ | refine JS_cons rfl rfl (RO_fieldAddr0 rfl) ?_ | refine JS_cons rfl rfl (RO_load rfl (by rfl)) ?_ | refine JS_off rfl ?_ | refine JS_cons rfl rfl (RO_extract rfl rfl) ?_ | refine JS_cons rfl rfl (RO_not rfl) ?_ | refine JS_cons rfl rfl (RO_fieldAddr rfl) ?_ | refine JS_cons rfl rfl (RO_lnb rfl) ?_ | refine JS_cons rfl rfl (RO_lls rfl) ?_ | refine JS_cons rfl rfl (RO_add_in rfl rfl (by omega)) ?_ | refine JS_cons rfl rfl (RO_sub_in rfl rfl (by omega)) ?_ | refine JS_cons rfl rfl (RO_ixa rfl rfl (by omega)) ?_ | refine JS_cons rfl rfl (RO_fe rfl) ?_ | refine JS_cons rfl rfl (RO_lde rfl (by omega) rfl) ?_ | refine JS_cons rfl rfl (RO_slih rfl rfl (by omega)) ?_ | refine JS_cons rfl rfl (RO_slil rfl rfl (by omega)) ?_ | refine JS_offu rfl ?_ | refine JS_cons rfl rfl (RO_cc rfl rfl (by omega)) ?_ | refine JS_cons rfl rfl (RO_bld rfl (by (repeat (first | exact FillS.nil | (apply FillS.cons; rfl; rfl; constructor; rfl; (focus repeat constructor)))))) ?_ | refine JS_cons rfl rfl (RO_lae rfl (by omega) (by repeat constructor)) ?_ | refine JS_cons rfl rfl (RO_loadAgg rfl (by repeat constructor)) ?_)
      · have hc1 : (layA S D h tell Q).1 ≠ 0 := by assumption
        have e1 : layE S D h tell Q = (layA S D h tell Q).1 := if_pos hc1
        have e2 : layS S D h tell Q = S := if_pos hc1
        have e3 : layD S D h tell Q = (layA S D h tell Q).2 := if_pos hc1
        rw [e1, e2, e3]
        refine rt ?_
        exact ⟨_, ⟨rfl, rfl⟩, _, by repeat constructor⟩
      · have hc1 : ¬ (layA S D h tell Q).1 ≠ 0 := by
          have : (layA S D h tell Q).1 = 0 := by assumption
          simp [this]
        have e1 : layE S D h tell Q = ((layA S D h tell Q).2.sync (segFile (lastS S))).1 := if_neg hc1
        have e2 : layS S D h tell Q = grown S h tell Q := if_neg hc1
        have e3 : layD S D h tell Q = ((layA S D h tell Q).2.sync (segFile (lastS S))).2 := if_neg hc1
        have hg : (grown S h tell Q).getD (((S.length : Nat) : Int) - 1).toNat .none = { lastS S with size := (lastS S).size + (layT S h tell Q).length } := by
          have := lastS_setLast hS { lastS S with size := (lastS S).size + (layT S h tell Q).length }
          unfold lastS at this
          rw [setLast_length] at this
          exact this
        have hgn0 : 0 ≤ ((grown S h tell Q).getD (((S.length : Nat) : Int) - 1).toNat .none).number := by rw [hg]; exact hn0
        have hgn1 : ((grown S h tell Q).getD (((S.length : Nat) : Int) - 1).toNat .none).number < 100 := by rw [hg]; exact hn1
        have hgf : segName ((grown S h tell Q).getD (((S.length : Nat) : Int) - 1).toNat .none).number.toNat = segFile (lastS S) := by rw [hg]; rfl
        repeat' (first | refine sre rfl ?_ | refine lae rfl ?_ (by rw [List.length_set]; omega) | (refine cl (segName_tr ((grown S h tell Q).getD (((S.length : Nat) : Int) - 1).toNat .none) hgn0 hgn1) ?_; rintro r Γ' ⟨rfl, rfl⟩; rw [hgf]; refine n0 ?_) | (refine cl (sync_tr d m (layA S D h tell Q).2 (hD.append _ _) (segFile (lastS S))) ?_; rintro r Γ' ⟨rfl, rfl⟩; refine n2 ?_) | refine mv ?_ | refine asn ?_ | refine jn ?_ | refine nl ?_ | refine ld rfl ?_ | refine nc ?_ | refine f0 ?_ | refine xt2 ?_ | refine sq ?_ | refine rg ?_ | refine lnb ?_ | refine lls rfl ?_ | refine ad ?_ | refine sb ?_ | refine lss ?_ | refine eql ?_ | refine neq ?_ | refine gtr ?_ | refine geq ?_ | refine leq ?_ | refine nt ?_ | refine pen ?_ | refine pnn ?_ | refine p1 ?_ | refine p0 ?_ | refine sk2 ?_ | refine kp ?_ | refine ct ?_ | refine cf ?_ | (refine cd (fun hc => ?_) (fun hc => ?_) <;> try (exfalso; omega)) | (refine cn (fun hc => ?_) (fun hc => ?_) <;> try (exfalso; omega)) | refine bl ?_ | refine ib ?_ | refine xt ?_ | refine bx (fun b_ => ?_) | refine al (fun b_ => ?_) | refine sr rfl ?_ | refine la rfl ?_ | refine ixa rfl rfl ?_ | refine fe ?_ | refine lde rfl ?_ | refine lae rfl ?_ | refine fa ?_ | refine bld ?_ | refine mf2 ?_ | refine seq ?_ | refine sne ?_ | refine cc ?_ | refine ixb ?_ | refine slb ?_ | refine slbl ?_ | refine slbh ?_ | refine cv ?_ | refine mx ?_ | refine mn ?_ | refine ml ?_ | refine af_ ?_ | (refine gd (fun hc => ?_) (fun hc => ?_) <;> try (exfalso; omega)) | (refine gn (fun hc => ?_) (fun hc => ?_) <;> try (exfalso; omega)) | refine aw ?_ | refine pes ?_ | refine pns ?_ | refine sw ?_ | refine ng ?_ | refine aeq ?_ | refine ane ?_ | refine sli rfl ?_ | refine slil rfl ?_ | refine slih rfl ?_ | refine cb (fun hc => ?_) (fun hc => ?_) | refine gs (fun hc => ?_) (fun hc => ?_) | refine J_draw (id := 1) [(0, true, []), (1, true, []), (2, true, []), (3, true, []), (4, true, []), (5, true, []), (6, true, []), (7, true, []), (8, true, []), (9, true, []), (10, true, []), (11, true, [])] (by kernel_rfl) ?_ | refine J_draw (id := 13) [(0, true, []), (1, true, []), (2, true, []), (3, true, []), (4, true, []), (5, true, []), (6, true, []), (7, false, [0, 1, 2, 3]), (8, false, [0, 1, 2, 3]), (9, false, []), (10, true, [])] (by kernel_rfl) ?_ | refine J_draw (id := 16) [(0, true, []), (1, true, []), (2, true, []), (3, true, []), (4, false, [0, 1, 2, 3]), (5, true, []), (6, true, []), (7, true, []), (8, false, [])] (by kernel_rfl) ?_ | refine J_draw (id := 17) [(0, true, []), (1, true, []), (2, true, []), (3, true, []), (4, true, []), (5, true, []), (6, true, []), (7, false, [0, 1, 2, 3]), (8, false, []), (9, true, [])] (by kernel_rfl) ?_ | refine JS_cons rfl rfl (RO_move rfl) ?_ | refine JS_cons rfl rfl (RO_nilCheck rfl) ?_ | refine JS_cons rfl rfl (RO_fieldAddr0 rfl) ?_ | refine JS_cons rfl rfl (RO_load rfl (by rfl)) ?_ | refine JS_off rfl ?_ | refine JS_cons rfl rfl (RO_extract rfl rfl) ?_ | refine JS_cons rfl rfl (RO_not rfl) ?_ | refine JS_cons rfl rfl (RO_fieldAddr rfl) ?_ | refine JS_cons rfl rfl (RO_lnb rfl) ?_ | refine JS_cons rfl rfl (RO_lls rfl) ?_ | refine JS_cons rfl rfl (RO_add_in rfl rfl (by omega)) ?_ | refine JS_cons rfl rfl (RO_sub_in rfl rfl (by omega)) ?_ | refine JS_cons rfl rfl (RO_ixa rfl rfl (by omega)) ?_ | refine JS_cons rfl rfl (RO_fe rfl) ?_ | refine JS_cons rfl rfl (RO_lde rfl (by omega) rfl) ?_ | refine JS_cons rfl rfl (RO_slih rfl rfl (by omega)) ?_ | refine JS_cons rfl rfl (RO_slil rfl rfl (by omega)) ?_ | refine JS_offu rfl ?_ | refine JS_cons rfl rfl (RO_cc rfl rfl (by omega)) ?_ | refine JS_cons rfl rfl (RO_bld rfl (by (repeat (first | exact FillS.nil | (apply FillS.cons; rfl; rfl; constructor; rfl; (focus repeat constructor)))))) ?_ | refine JS_cons rfl rfl (RO_lae rfl (by omega) (by repeat constructor)) ?_ | refine JS_cons rfl rfl (RO_loadAgg rfl (by repeat constructor)) ?_)
        rw [e1, e2, e3]
        refine rt ?_
        exact ⟨_, ⟨rfl, rfl⟩, _, by repeat constructor⟩
theorem lay_tr (w d m : Nat) (h0 : Hrd) (ev sv pv : Value) (S : List Seg) (D : DiskS) (hD : D.Ok) (h : Hrd) (hh : h.In) (tell : Bool) (ps : List (List UInt8)) (hps : ∀ p ∈ ps, p.length ≤ 65536) (hpl : ps.length ≤ 100) (hS : S ≠ []) (hSl : S.length ≤ 100000) (hn0 : 0 ≤ (lastS S).number) (hn1 : (lastS S).number < 100) (hz0 : 0 ≤ (lastS S).size) (hz1 : (lastS S).size ≤ 100000000) (hq : (tell = true ∨ (lastS S).size = 0) ∨ ps ≠ []) :
    Tr Tryz.prog 50 [.pointer (some ⟨w, 0, none⟩), hrdV h, .bool tell, pv] [blk w (lcell d h0 ev sv), sl 94 segE sv S, blk d (dcell m D), mp fmap m D.files, sl 9 strE pv ps]
      fun v Γ => v = .int .i64 (layE S D h tell ps) ∧ Γ = [blk w (lcell d h0 ev sv), sl 94 segE sv (layS S D h tell ps), blk d (dcell m (layD S D h tell ps)), mp fmap m (layD S D h tell ps).files] := by
  by_cases hc : tell = true ∨ (lastS S).size = 0
  · exact lay1_tr w d m h0 ev sv pv S D hD h hh tell ps hps hpl hS hSl hn0 hn1 hz0 hz1 hc
  · exact lay2_tr w d m h0 ev sv pv S D hD h hh tell ps hps hpl hS hSl hn0 hn1 hz0 hz1 hc (by rcases hq with h | h; exact absurd h hc; exact h)
end Go.Proofs.YtaeefjcbmkiiaaaGreatDoor
/- Read again: a group of cells of a slice's element. -/
namespace Go.Proofs.YtaeefjcbmkiiaaaGreatDoor.Sl
open Go
section
open Go.RowKit
variable {c : Ctx} {k : List Item} {st : St} {Γ : List Assn} {d : Option Tmp} {ty : TypeId} {pos : String} {af : Array Edge} {g : Option (Nat × Bool)}
theorem RO_lae {x : Operand} {T : TypeId} {α : Type} {e : EncT α} {v : Value} {L : List α} {i j n : Nat} {us : List Value} [ht : TAgg c.P T n] (hv : ev st x = some (.pointer (some ⟨vb v, el (vo v) i e.sz j, none⟩))) [hr : RdG Γ v e L] (hb : i < L.length) (hl : GetN (e.enc (L.getD i e.dflt)) j n us) : RO c st Γ ⟨d, .load T x, ty, pos, af, g⟩ (.agg ⟨us⟩) := fun a w ha hS => by
  obtain ⟨cap, E', fz, cur, h1, h2, h3⟩ := (hr.h _ _ _ hS).at hb
  obtain ⟨h4, h5⟩ := hl.get
  have := run_loadVar_agg (P := c.P) ht.a ht.s h4 (w := w) (b := vb v) (o := el (vo v) i e.sz j) (fun q hq => by
    have hq' : q < us.length := by omega
    have h6 := h5 q hq
    rw [List.getElem?_eq_getElem hq'] at h6 ⊢
    have hjq : j + q < e.sz := by
      rw [← e.len (L.getD i e.dflt)]
      rcases Nat.lt_or_ge (j + q) (e.enc (L.getD i e.dflt)).length with h | h
      · exact h
      · rw [List.getElem?_eq_none h] at h6; cases h6
    refine cell_of (l := cur.toList) h2 ?_
    rw [show el (vo v) i e.sz j + q = el (vo v) i e.sz (j + q) by unfold el; omega, h3 _ hjq, h6])
  simp [execOp, ev_eval ha hv, Instr.loadAt, Instr.sureAddr, this]
theorem RO_bld {T : TypeId} {parts : List (Nat × Operand)} {pl : List (Nat × Nat)} {zv : Value} {zl zl' : List Value} [ht : TPlaces c.P T pl] [hZ : TZero c.P T zv] (hz0 : zv = .agg ⟨zl⟩) (hp : FillS st pl zl parts zl') :
    RO c st Γ ⟨d, .build T ⟨parts⟩, ty, pos, af, g⟩ (.agg ⟨zl'⟩) := fun a w ha hS => by
  have hz : zv.cells = ⟨zl⟩ := by rw [hz0]; rfl
  obtain ⟨fs, h1, h2, h3⟩ := ht.h
  have hm : (fs.mapM fun f => do pure (f.offset, ← sizeOf f.type) : Sem (Array (Nat × Nat))).run c.P w = .ok ⟨pl⟩ w := by
    have key : ∀ (l : List Field), l.all (fun f => (szOf c.P f.type).isSome) = true → (l.mapM fun f => do pure (f.offset, ← sizeOf f.type) : Sem (List (Nat × Nat))).run c.P w = .ok (l.map fun f => (f.offset, (szOf c.P f.type).getD 0)) w := by
      intro l
      induction l with
      | nil => intro _; rfl
      | cons f l ih =>
        intro hl
        simp only [List.all_cons, Bool.and_eq_true] at hl
        obtain ⟨s, hs⟩ := Option.isSome_iff_exists.1 hl.1
        rw [List.mapM_cons, Sem.run_bind]
        simp only [Sem.run_bind, run_sizeOf hs, Result.andThen_ok, Sem.run_pure, ih hl.2, List.map_cons, hs, Option.getD_some]
    obtain ⟨fl⟩ := fs
    rw [show (⟨fl⟩ : Array Field) = fl.toArray from rfl, List.mapM_toArray, Sem.run_map, key fl h3]
    simp only [Result.andThen_ok]
    rw [← h2]
  have hmap : (((⟨parts⟩ : Array (Nat × Operand)).map fun (p : Nat × Operand) => (p.1, a.eval p.2)).toList) = parts.map fun p => (p.1, a.eval p.2) := by simp
  simp only [execOp, Instr.build, Sem.run_bind, run_zeroValue hZ.z, Result.andThen_ok, run_underlying h1, hm, hz]
  rw [show ((⟨parts⟩ : Array (Nat × Operand)).map fun x => match x with | (i, x) => (i, a.eval x)).toList = parts.map fun p => (p.1, a.eval p.2) from hmap, fill_of ha (fun i => (⟨pl⟩ : Array (Nat × Nat))[i]?) (fun i => by simp) hp]
  rfl
theorem RO_cc {x y : Operand} {T U : TypeId} {a b : List UInt8} (hx : ev st x = some (vs a)) (hy : ev st y = some (vs b)) (hb : a.length + b.length ≤ 9223372036854775807) : RO c st Γ ⟨d, .binOp .add T x y U, ty, pos, af, g⟩ (vs (a ++ b)) :=
  RO_str hx hy fun w => by
    simp only [binOp, Op.stringOp, bs_size, bs_append]
    have hmax : IntKind.i64.max = 9223372036854775807 := by decide
    rw [if_neg (by rw [hmax]; omega)]
    rfl
theorem RO_slil {α : Type} {e : EncT α} {v : Value} {L : List α} {x lo : Operand} {T : TypeId} {i : IntKind} {m : Int} {E bb : Nat} [ht : TSlice c.P T E] (hv : ev st x = some v) [hr : RdG Γ v e L] [hz : ESize c.P E e.sz bb] (hl : ev st lo = some (.int i m)) (hb : 0 ≤ m ∧ m ≤ L.length) : RO c st Γ ⟨d, .slice T x (some lo) none none, ty, pos, af, g⟩ (vw v m.toNat L.length e.sz) := fun a w ha hS => by
  obtain ⟨p, M, h1, h2⟩ := (hr.h _ _ _ hS).cap
  exact RO_slice (c := c) (Γ := Γ) (sz := e.sz) (lo := some lo) (hi := none) hv ⟨i, by rw [hl, Int.toNat_of_nonneg hb.1]⟩ (fun p' n' m' he => by rw [h1] at he; cases he; rfl) (fun w hS => by
    obtain ⟨p, M, h1, h2⟩ := (hr.h _ _ _ hS).cap
    exact ⟨p, _, M, h1, h2, by omega, h2⟩) a w ha hS
/-- append(s, xs[a:b]...), s owned. -/
theorem apv {ops : Array Oper} {rs : List Oper} {l : List Stp} {k : List Item} {x y : Operand} {T : TypeId} {α : Type} {e : EncT α} {K L : List α} {E bb a b : Nat} {z s v : Value} {Γ' : List Assn} [ht : TSlice c.P T E] [hz : ESize c.P E e.sz bb] [hZ : TZero c.P E z] (hx : ev st x = some s) (hy : ev st y = some (vw v a b e.sz)) [hs : SelS Γ s E e K Γ'] [hr : RdG Γ v e L] (hab : a ≤ b) (hbl : b ≤ L.length)
    (h : ∀ v', JS c ops rs l k (stput d v' st) (sl E e v' (K ++ (L.take b).drop a) :: Γ')) (hb : (K.length + ((L.take b).drop a).length) * bb ≤ 140737488355328) (hm : K.length + ((L.take b).drop a).length ≤ 9223372036854775807) (hzl : z.cells.size = e.sz := by rfl)
    (hg : gOk ops st ⟨d, .call ⟨.builtin .append, #[x, y], #[T, T]⟩, ty, pos, af, g⟩ = some true := by rfl) (hd : dOk d c.n = true := by rfl) : JR c ops (⟨⟨d, .call ⟨.builtin .append, #[x, y], #[T, T]⟩, ty, pos, af, g⟩, false, rs⟩ :: l) k st Γ :=
  apd hx hy (fun B F w hS => tgt_sl (hS.perm hs.h.perm)) (fun B F w hS => (hr.h B F w hS).view hab hbl) h hb hm hzl hg hd
/-- Is a guard known? -/
theorem glt {fl : Bool} {ops : Array Oper} {rs : List Oper} {l : List Stp} {k : List Item} {o : Oper} {j d : Nat} {want : Bool} (h : JR c ops (⟨o, fl, rs⟩ :: l) k st Γ) (hg : o.guard = some (j, want) := by rfl) (hd : (ops[j]?).bind (·.dst) = some d := by rfl) (hv : look st d = some (.bool true) := by rfl) : JR c ops (⟨o, fl, rs⟩ :: l) k st Γ := h
theorem glf {fl : Bool} {ops : Array Oper} {rs : List Oper} {l : List Stp} {k : List Item} {o : Oper} {j d : Nat} {want : Bool} (h : JR c ops (⟨o, fl, rs⟩ :: l) k st Γ) (hg : o.guard = some (j, want) := by rfl) (hd : (ops[j]?).bind (·.dst) = some d := by rfl) (hv : look st d = some (.bool false) := by rfl) : JR c ops (⟨o, fl, rs⟩ :: l) k st Γ := h
/-- A guard that was itself not carried out: what hangs on it is not either. -/
def gOff (ops : Array Oper) (st : St) (o : Oper) : Bool :=
  match o.guard with
  | none => false
  | some (j, _) => match (ops[j]?).bind (·.dst) with
    | some d => match look st d with
      | some (.tuple _) => true
      | _ => false
    | none => false
theorem gOff_wanted {n : Nat} {ops : Array Oper} {o : Oper} {a : Act} (h : gOff ops st o = true) (ha : Agree n st a) : Region.wanted o (yielded ops a.tmps) = false := by
  unfold gOff at h
  unfold Region.wanted
  split at h
  · cases h
  · rename_i j want hg
    rw [hg]
    dsimp only at h ⊢
    split at h
    · rename_i d hd
      split at h
      · rename_i u hb
        have := ha.2.2 d _ hb
        have hy : yielded ops a.tmps j = none := by
          unfold yielded
          rw [hd]
          simp only [Option.bind_some]
          rw [Array.getD_eq_getD_getElem?] at this
          cases hx : a.tmps[d]? with
          | none => rfl
          | some v => rw [hx] at this; simp only [Option.getD_some] at this; subst this; rfl
        rw [hy]; rfl
      · cases h
    · cases h
theorem sku {fl : Bool} {ops : Array Oper} {rs : List Oper} {l : List Stp} {k : List Item} {o : Op} (h : JR c ops l k (stput d undef st) Γ) (hg : gOff ops st ⟨d, o, ty, pos, af, g⟩ = true := by rfl) (hd : dOk d c.n = true := by rfl) : JR c ops (⟨⟨d, o, ty, pos, af, g⟩, fl, rs⟩ :: l) k st Γ := by
  intro b cs a w h1 h2 h3 h4
  unfold CR
  simp only [gOff_wanted hg h3, Bool.false_eq_true, if_false]
  exact h b cs _ w h1 h2 (h3.put hd undef) h4
theorem JS_offu {ops : Array Oper} {r : Oper} {rs : List Oper} {l : List Stp} {k : List Item} (hg : gOff ops st r = true) (h : JS c ops rs l k st Γ) : JS c ops (r :: rs) l k st Γ := by
  intro b cs a w h1 h2 h3 h4
  obtain ⟨h5, h6⟩ := h b cs a w h1 h2 h3 h4
  refine ⟨fun x hx => ?_, h6⟩
  rcases List.mem_cons.1 hx with rfl | hx
  · intro hw
    rw [gOff_wanted hg h3] at hw; cases hw
  · exact h5 x hx
theorem ssl {fl : Bool} {ops : Array Oper} {l : List Stp} {k : List Item} {x y : Operand} {T U : TypeId} {a b : List UInt8} (h : JR c ops l k (stput d (.bool (Op.bytesLess a b)) st) Γ) (hx : ev st x = some (vs a) := by rfl) (hy : ev st y = some (vs b) := by rfl) (hg : gOk ops st ⟨d, .binOp .lss T x y U, ty, pos, af, g⟩ = some true := by rfl) (hd : dOk d c.n = true := by rfl) : JR c ops (⟨⟨d, .binOp .lss T x y U, ty, pos, af, g⟩, fl, []⟩ :: l) k st Γ :=
  ro h (RO_str hx hy fun w => by simp only [binOp, Op.stringOp, ByteArray.toList_mk, Sem.run_pure]) hg hd
/-- A call, the arguments first: where it does not fit, it fails at once. -/
theorem cle {k : List Item} {ops : Array Oper} {rs : List Oper} {l : List Stp} {xs : List Operand} {ats : Array TypeId} {f : FuncId} {us : List Value} {Pre R : List Assn} {Q : Value → List Assn → Prop} [IsFn c.P f] (hvs : evl st xs = some us) (ht : Tr c.P f us Pre Q) (h : ∀ v Γ', Q v Γ' → JS c ops rs l k (stput d v st) (Γ' ++ R))
    (hs : Split Γ Pre R := by (repeat constructor)) (hg : gOk ops st ⟨d, .call ⟨.value (.func f), ⟨xs⟩, ats⟩, ty, pos, af, g⟩ = some true := by rfl) (hd : dOk d c.n = true := by rfl) :
    JR c ops (⟨⟨d, .call ⟨.value (.func f), ⟨xs⟩, ats⟩, ty, pos, af, g⟩, false, rs⟩ :: l) k st Γ := cl ht h (evl_evs hvs) hs hg hd
end
end Go.Proofs.YtaeefjcbmkiiaaaGreatDoor.Sl
/- The log on a disk whose power stays: what is always so; saves and resets: plain. -/
namespace Go.Proofs.YtaeefjcbmkiiaaaGreatDoor
open Go Sl
set_option linter.unusedVariables false

/-- An index that these acts bear. -/
def goodI (n : Int) : Prop := n ≤ 33 ∨ n % 37 = 0
theorem SD.setTop {S : List Seg} {D : DiskS} (h : SD S D) (i : Int) : SD (setTop S i) D := by
  obtain ⟨A, q, rfl⟩ := ne_end h.ne
  have e : Go.Proofs.YtaeefjcbmkiiaaaGreatDoor.setTop (A ++ [q]) i = A ++ [{ q with top := max q.top i }] := by unfold Go.Proofs.YtaeefjcbmkiiaaaGreatDoor.setTop; rw [lastS_end, setLast_end]
  rw [e]
  refine { ok := h.ok, dead := h.dead, fuse := h.fuse, ne := by simp, cnt := by have := h.cnt; simpa using this, num := fun j s hs => ?_, files := by rw [h.files]; simp [segFile] }
  rcases Nat.lt_or_ge j A.length with hi | hi
  · exact h.num j s (by rw [List.getElem?_append_left hi] at hs ⊢; exact hs)
  · rw [List.getElem?_append_right hi] at hs
    rcases Nat.eq_or_lt_of_le hi with he | hlt
    · rw [← he] at hs; simp at hs; subst hs; rw [← he]; exact h.numEnd
    · rw [List.getElem?_eq_none (by simp; omega)] at hs; cases hs
theorem mem_total {p : Nm × FileS} {l : List (Nm × FileS)} (h : p ∈ l) : p.2.bytes.length ≤ DiskS.total l := by
  induction l with
  | nil => cases h
  | cons q l ih =>
    rw [total_cons]
    rcases List.mem_cons.1 h with rfl | h
    · exact Nat.le_add_right _ _
    · have := ih h; omega
theorem SD.sizes {S : List Seg} {D : DiskS} (h : SD S D) : ∀ s ∈ S, 0 ≤ s.size ∧ s.size ≤ D.most := by
  intro s hs
  have : (segFile s, s.size) ∈ D.files.map fun p => (p.1, (p.2.bytes.length : Int)) := by rw [h.files]; exact List.mem_map.2 ⟨s, hs, rfl⟩
  obtain ⟨p, hp, he⟩ := List.mem_map.1 this
  have h1 : (p.2.bytes.length : Int) = s.size := congrArg Prod.snd he
  have h2 : p.2.bytes.length ≤ DiskS.total D.files := mem_total hp
  have := h.ok.sz
  omega
theorem lastS_mem {S : List Seg} (h : S ≠ []) : lastS S ∈ S := by
  obtain ⟨A, q, rfl⟩ := ne_end h
  rw [lastS_end]; simp
theorem SD.num_le {S : List Seg} {D : DiskS} (h : SD S D) : ∀ s ∈ S, 1 ≤ s.number ∧ s.number ≤ 20 := by
  intro s hs
  obtain ⟨i, hi, rfl⟩ := List.getElem_of_mem hs
  have := h.num i S[i] (by simp [hi])
  have := h.cnt
  omega

/-! ### entries -/
theorem getD_of {l : List Ent} {i : Nat} (h : i < l.length) : l.getD i .none = l[i] := by rw [List.getD_eq_getElem?_getD, List.getElem?_eq_getElem h]; rfl
theorem rise_one {e : Ent} (h : e.In) (h0 : 0 < e.index) : Rise [e] where
  up i hi := by have : i = 0 := by simpa using hi
                subst this; simp
  in_ x hx := by rw [List.mem_singleton.1 hx]; exact h
  pos x hx := by rw [List.mem_singleton.1 hx]; exact h0
theorem Rise.last {l : List Ent} (h : Rise l) (h0 : 0 < l.length) : (lastE l).index = (headE l).index + (l.length - 1 : Nat) := by
  have := h.up (l.length - 1) (by omega)
  unfold lastE headE
  rw [show ((l.length : Int) - 1).toNat = l.length - 1 by omega]
  exact this
theorem putE_cases (l : List Ent) (e : Ent) (hl : Rise l) (he : e.In) (h0 : 0 < e.index) : putE l e = [e] ∨ (l ≠ [] ∧ 0 ≤ e.index - (headE l).index ∧ e.index - (headE l).index ≤ l.length ∧ putE l e = l.take (e.index - (headE l).index).toNat ++ [e]) := by
  unfold putE
  split
  · exact .inl rfl
  · rename_i hn
    right
    simp only [not_or] at hn
    obtain ⟨h1, h2, h3⟩ := hn
    have h0 : 0 < l.length := by omega
    have hlast := hl.last h0
    have hmem : ∀ i, i < l.length → I64 (l.getD i .none).index := fun i hi => by
      rw [getD_of hi]; exact (hl.in_ _ (List.getElem_mem hi)).i
    have hA : I64 (lastE l).index := hmem _ (by omega)
    have hB : I64 (headE l).index := hmem _ h0
    have hE := he.i
    unfold I64 at hA hB hE
    have hle : e.index - (headE l).index ≤ l.length := by
      by_cases hm : (lastE l).index + 1 ≤ 9223372036854775807
      · rw [wrap_in (by omega) hm] at h2; omega
      · have : (lastE l).index + 1 = 9223372036854775808 := by omega
        rw [this] at h2
        have : IntKind.i64.wrap 9223372036854775808 = -9223372036854775808 := by decide
        rw [this] at h2; omega
    exact ⟨List.length_pos_iff.1 h0, by omega, hle, rfl⟩
theorem putE_rise {l : List Ent} {e : Ent} (hl : Rise l) (he : e.In) (h0 : 0 < e.index) : Rise (putE l e) := by
  rcases putE_cases l e hl he h0 with h | ⟨hne, h1, h2, h⟩
  · rw [h]; exact rise_one he h0
  · rw [h]
    generalize hk : (e.index - (headE l).index).toNat = k
    have hkl : k ≤ l.length := by omega
    have hlen : (l.take k).length = k := by rw [List.length_take]; omega
    have hhead : ∀ x : Ent, (if 0 < k then (l.getD 0 .none).index else x.index) = (headE l).index → ((l.take k ++ [x]).getD 0 .none).index = (headE l).index := by
      intro x hx
      split at hx
      · rename_i hk0
        rw [List.getD_eq_getElem?_getD, List.getElem?_append_left (by omega), List.getElem?_take_of_lt hk0, ← List.getD_eq_getElem?_getD]; exact hx
      · rename_i hk0
        have : k = 0 := by omega
        subst this; simpa using hx
    have hh : ((l.take k ++ [e]).getD 0 .none).index = (headE l).index := by
      apply hhead
      split
      · rfl
      · omega
    refine { up := fun i hi => ?_, in_ := fun x hx => ?_, pos := fun x hx => ?_ }
    · rw [hh]
      rw [List.length_append, hlen] at hi
      simp only [List.length_cons, List.length_nil] at hi
      rcases Nat.lt_or_ge i k with hik | hik
      · rw [List.getD_eq_getElem?_getD, List.getElem?_append_left (by omega), List.getElem?_take_of_lt hik, ← List.getD_eq_getElem?_getD]
        exact hl.up i (by omega)
      · have : i = k := by omega
        subst this
        rw [List.getD_eq_getElem?_getD, List.getElem?_append_right (by omega), hlen]
        simp; omega
    · rcases List.mem_append.1 hx with hx | hx
      · exact hl.in_ x (List.mem_of_mem_take hx)
      · rw [List.mem_singleton.1 hx]; exact he
    · rcases List.mem_append.1 hx with hx | hx
      · exact hl.pos x (List.mem_of_mem_take hx)
      · rw [List.mem_singleton.1 hx]; exact h0
theorem putE_mem {l : List Ent} {e x : Ent} (h : x ∈ putE l e) : x = e ∨ x ∈ l := by
  unfold putE at h
  split at h
  · exact .inl (List.mem_singleton.1 h)
  · rcases List.mem_append.1 h with h | h
    · exact .inr (List.mem_of_mem_take h)
    · exact .inl (List.mem_singleton.1 h)
theorem putE_len (l : List Ent) (e : Ent) : (putE l e).length ≤ l.length + 1 := by
  unfold putE
  split
  · simp
  · rw [List.length_append, List.length_take]; simp; omega
/-- An entry far from all others stands alone. -/
theorem putE_alone {l : List Ent} {e : Ent} (hl : Rise l) (hg : ∀ x ∈ l, goodI x.index) (he : e.index = 500) : putE l e = [e] := by
  unfold putE
  rw [if_pos]
  by_cases h0 : (l.length : Int) = 0
  · exact .inl h0
  right
  have h0' : 0 < l.length := by omega
  have hlast := hl.last h0'
  have hm : ∀ i, i < l.length → goodI (l.getD i .none).index ∧ I64 (l.getD i .none).index := fun i hi => by
    rw [getD_of hi]; exact ⟨hg _ (List.getElem_mem hi), (hl.in_ _ (List.getElem_mem hi)).i⟩
  have hA : goodI (lastE l).index ∧ I64 (lastE l).index := hm _ (by omega)
  unfold goodI I64 at hA
  by_cases hb : e.index < (headE l).index
  · exact .inr hb
  left
  rw [wrap_in (by omega) (by omega)]
  refine Classical.byContradiction fun hc => ?_
  have h500 : (l.getD (500 - (headE l).index).toNat .none).index = 500 := by
    have hi : (500 - (headE l).index).toNat < l.length := by omega
    have := hl.up _ hi
    rw [this]
    show (headE l).index + _ = 500
    omega
  have hi : (500 - (headE l).index).toNat < l.length := by omega
  have := (hm _ hi).1
  rw [h500] at this
  unfold goodI at this
  omega

/-! ### what is always so -/
structure Live (W : LogS) (D : DiskS) (n : Nat) : Prop where
  sd : SD W.segs D
  rise : Rise W.ents
  good : ∀ e ∈ W.ents, goodI e.index
  len : W.ents.length ≤ n
  hin : W.hard.In
  h0 : 0 ≤ W.hard.term ∧ 0 ≤ W.hard.vote
theorem puts_live {W : LogS} {D : DiskS} {n : Nat} (hW : Live W D n) (l : List Ent) (hl : ∀ e ∈ l, e.In ∧ 0 < e.index ∧ goodI e.index) : Live (puts W l) D (n + l.length) := by
  induction l generalizing W n with
  | nil => exact hW
  | cons e l ih =>
    have he := hl e (List.mem_cons_self ..)
    have := ih (W := W.put e) (n := n + 1) { sd := hW.sd.setTop _, rise := putE_rise hW.rise he.1 he.2.1, good := fun x hx => by rcases putE_mem hx with rfl | hx; exact he.2.2; exact hW.good x hx, len := Nat.le_trans (putE_len _ _) (by have := hW.len; omega), hin := hW.hin, h0 := hW.h0 } fun x hx => hl x (List.mem_cons_of_mem _ hx)
    rw [show n + (e :: l).length = n + 1 + l.length by simp; omega]
    exact this
theorem puts_hard (W : LogS) (l : List Ent) : (puts W l).hard = W.hard := by
  induction l generalizing W with
  | nil => rfl
  | cons e l ih => exact ih _
theorem begun_how (S : List Seg) : begun S = S ∨ (begun S = next S ∧ S.length < 20) := by
  unfold begun
  split
  · rename_i h; exact .inr ⟨rfl, by have := h.2; omega⟩
  · exact .inl rfl
theorem there_new {S : List Seg} {D : DiskS} (h : SD S D) (hc : S.length < 20) : there D S (next S) = S := by
  unfold there
  rw [if_neg]
  rw [keys_of h.files]
  obtain ⟨A, q, rfl⟩ := ne_end h.ne
  have hnum := h.numEnd
  have e : lastS (next (A ++ [q])) = ⟨q.number + 1, 0, 0⟩ := by unfold next; rw [lastS_end, lastS_end]
  rw [e]
  exact segFile_notin h.num (by omega) (by simp [hnum])
/-- A save that may be: full, and nothing is changed, or done. -/
theorem save_live {W : LogS} {D : DiskS} {n : Nat} (hW : Live W D n) (h : Hrd) (hh : h.In) (h0 : 0 ≤ h.term ∧ 0 ≤ h.vote) (l : List Ent) (hl : ∀ e ∈ l, e.In ∧ goodI e.index) (hr : ∀ e ∈ l, e.right = true) (hn : l ≠ []) :
    ((W.save D h l).1 = 6 ∧ (W.save D h l).2 = (W, D) ∧ D.most < (DiskS.total D.files : Int) + (layT (begun W.segs) h (decide (h ≠ W.hard)) (l.map entText)).length) ∨ ((W.save D h l).1 = 0 ∧ Live (W.save D h l).2.1 (W.save D h l).2.2 (n + l.length) ∧ (W.save D h l).2.1.ents = l.foldl putE W.ents ∧ (W.save D h l).2.1.hard = h ∧ DiskS.total (W.save D h l).2.2.files = DiskS.total D.files + (layT (begun W.segs) h (decide (h ≠ W.hard)) (l.map entText)).length ∧ 0 < (layT (begun W.segs) h (decide (h ≠ W.hard)) (l.map entText)).length ∧ (W.save D h l).2.2.most = D.most) := by
  have hany : (l.any fun e => !e.right) = false := by
    rw [List.any_eq_false]
    intro e he
    rw [hr e he]; decide
  have hpos : ∀ e ∈ l, 0 < e.index := fun e he => by
    have := hr e he
    simp only [Ent.right, Bool.and_eq_true, decide_eq_true_eq] at this
    exact this.1.1.1
  unfold LogS.save
  rw [if_neg (by rw [hany]; simp; omega), if_neg (by rintro ⟨h1, _⟩; exact hn h1)]
  rcases lay_live hW.sd (begun_how W.segs) h (decide (h ≠ W.hard)) (l.map entText) with ⟨a, b, c, cf⟩ | ⟨a, b, c, d, e⟩
  · left
    rw [a, b, c, if_pos (by decide)]
    refine ⟨rfl, ?_, cf⟩
    have : (if more W.segs then there D W.segs (begun W.segs) else begun W.segs) = W.segs := by
      unfold begun
      split
      · rename_i hm; exact there_new hW.sd (by have := hm.2; omega)
      · rfl
    rw [this]
  · right
    rw [a, if_neg (by decide), b]
    dsimp only
    have hLv : Live { W with hard := h, segs := grown (begun W.segs) h (decide (h ≠ W.hard)) (l.map entText) } (layD (begun W.segs) D h (decide (h ≠ W.hard)) (l.map entText)) n := { sd := c, rise := hW.rise, good := hW.good, len := hW.len, hin := hh, h0 := h0 }
    refine ⟨rfl, puts_live hLv l fun x hx => ⟨(hl x hx).1, hpos x hx, (hl x hx).2⟩, ?_, puts_hard _ _, d, ?_, e⟩
    · have : ∀ (W : LogS), (puts W l).ents = l.foldl putE W.ents := by
        clear hl hr hn hany hpos a b c d e hLv
        induction l with
        | nil => intro W; rfl
        | cons e l ih => intro W; exact ih (W.put e)
      exact this { W with hard := h, segs := grown (begun W.segs) h (decide (h ≠ W.hard)) (l.map entText) }
    · unfold layT
      apply frames_pos
      unfold told
      split
      · simp
      · simpa using hn
/-- Any save: an error, and nothing is changed; or none, and all stays as it should. -/
theorem save_any {W : LogS} {D : DiskS} {n : Nat} (hW : Live W D n) (h : Hrd) (hh : h.In) (l : List Ent) (hl : ∀ e ∈ l, e.In ∧ goodI e.index) :
    Live (W.save D h l).2.1 (W.save D h l).2.2 (n + l.length) ∧ (W.save D h l).2.2.most = D.most := by
  have hW' : Live W D (n + l.length) := { hW with len := by have := hW.len; omega }
  by_cases h1 : h.term < 0 ∨ h.vote < 0 ∨ (l.any fun e => !e.right) = true
  · unfold LogS.save; rw [if_pos h1]; exact ⟨hW', rfl⟩
  by_cases h2 : l = [] ∧ h = W.hard
  · unfold LogS.save; rw [if_neg h1, if_pos h2]; exact ⟨hW', rfl⟩
  simp only [not_or] at h1
  have hr : ∀ e ∈ l, e.right = true := by
    have := h1.2.2
    rw [Bool.not_eq_true, List.any_eq_false] at this
    intro e he
    have := this e he
    simpa using this
  by_cases hn : l = []
  · subst hn
    unfold LogS.save
    rw [if_neg (by simp; omega), if_neg h2]
    rcases lay_live hW.sd (begun_how W.segs) h (decide (h ≠ W.hard)) (List.map entText []) with ⟨a, b, c, cf⟩ | ⟨a, b, c, d, e⟩
    · rw [a, b, c, if_pos (by decide)]
      have : (if more W.segs then there D W.segs (begun W.segs) else begun W.segs) = W.segs := by
        unfold begun
        split
        · rename_i hm; exact there_new hW.sd (by have := hm.2; omega)
        · rfl
      rw [this]
      exact ⟨hW', rfl⟩
    · rw [a, if_neg (by decide), b]
      exact ⟨{ sd := c, rise := hW.rise, good := hW.good, len := hW.len, hin := hh, h0 := ⟨by show 0 ≤ h.term; omega, by show 0 ≤ h.vote; omega⟩ }, e⟩
  · rcases save_live hW h hh ⟨by omega, by omega⟩ l hl hr hn with ⟨a, b, _⟩ | ⟨a, b, c, d, e, _, f⟩
    · rw [b]; exact ⟨hW', rfl⟩
    · exact ⟨b, f⟩
theorem reset_any {W : LogS} {D : DiskS} {n : Nat} (hW : Live W D n) : Live (W.reset D).2.1 (W.reset D).2.2 n ∧ (W.reset D).2.2.most = D.most := by
  unfold LogS.reset
  rcases lay_live hW.sd (.inl rfl) W.hard false [resetText] with ⟨a, b, c, cf⟩ | ⟨a, b, c, d, e⟩
  · rw [a, b, c, if_pos (by decide)]; exact ⟨hW, rfl⟩
  · rw [a, if_neg (by decide), b]
    exact ⟨{ sd := c, rise := { up := (fun i hi => absurd hi (by simp)), in_ := (fun x hx => by cases hx), pos := (fun x hx => by cases hx) }, good := (fun x hx => by cases hx), len := Nat.zero_le _, hin := hW.hin, h0 := hW.h0 }, e⟩
end Go.Proofs.YtaeefjcbmkiiaaaGreatDoor
