/- The disk: how it lies in memory; the turn of its fuse; a file found. -/
import Derived.Test.YtaeefjcbmkiiaaaGreatDoorTy
import Derived.Test.YtaeefjcbmkiiaaaGreatDoorM0
namespace Go.Proofs.YtaeefjcbmkiiaaaGreatDoor
open Go Sl
attribute [local irreducible] J JR JS RO CR Arr Sat Tr sat blk
set_option linter.unusedVariables false
set_option maxHeartbeats 400000

abbrev fileE (f : FileS) : Value := .agg ⟨[vs f.bytes, .int .i64 f.synced]⟩
def fmap : MapT (List UInt8) FileS where
  key := vs
  val := fileE
  fits := fun D => match D with | .string => true | _ => false
  same := fun D a b h => by
    cases D <;> simp at h
    simp only [Instr.sameNow]
    rw [beq_toListBytes, ByteArray.toList_mk, ByteArray.toList_mk]
    by_cases h : a = b <;> simp [h]
  plain := fun D h => by cases D <;> simp at h <;> rfl
  bits := fun n a => by simp [Instr.sameBits, beq_toListBytes]
instance : KFit Tryz.prog 9 fmap := ⟨.string, by kernel_rfl, rfl⟩
/-- A disk's own block; its files lie at m. -/
abbrev dcell (m : Nat) (D : DiskS) : Obj := .cells ⟨[.map (some m), .int .i64 D.most, .int .i64 D.fuse, .bool D.dead]⟩ 86 (0, 0)

theorem turn_tr (d m : Nat) (D : DiskS) (h : D.Ok) :
    Tr Tryz.prog 141 [.pointer (some ⟨d, 0, none⟩)] [blk d (dcell m D)]
      fun v Γ => v = .int .i64 D.turn.1 ∧ Γ = [blk d (dcell m D.turn.2)] := by
  have := h.fz1
  have := h.fz2
  refine Tr_of_J Tryz.func141 follows rfl Tryz.ntmps141 (by simp) fun B F => ?_
  repeat' (first | refine mv ?_ | refine asn ?_ | refine jn ?_ | refine nl ?_ | refine ld rfl ?_ | refine nc ?_ | refine f0 ?_ | refine xt2 ?_ | refine sq ?_ | refine rg ?_ | refine lnb ?_ | refine lls rfl ?_ | refine ad ?_ | refine sb ?_ | refine lss ?_ | refine eql ?_ | refine neq ?_ | refine gtr ?_ | refine geq ?_ | refine leq ?_ | refine nt ?_ | refine pen ?_ | refine pnn ?_ | refine p1 ?_ | refine p0 ?_ | refine sk2 ?_ | refine kp ?_ | refine ct ?_ | refine cf ?_ | (refine cd (fun hc => ?_) (fun hc => ?_) <;> try (exfalso; omega)) | (refine cn (fun hc => ?_) (fun hc => ?_) <;> try (exfalso; omega)) | refine bl ?_ | refine ib ?_ | refine xt ?_ | refine bx (fun b_ => ?_) | refine al (fun b_ => ?_) | refine sr rfl ?_ | refine la rfl ?_ | refine ixa rfl rfl ?_ | refine fe ?_ | refine lde rfl ?_ | refine lae rfl ?_ | refine fa ?_ | refine bld ?_ | refine mf2 ?_ | refine seq ?_ | refine sne ?_ | refine cc ?_ | refine ixb ?_ | refine slb ?_ | refine slbl ?_ | refine slbh ?_ | refine cv ?_ | refine mx ?_ | refine mn ?_ | refine ml ?_ | refine af_ ?_ | (refine gd (fun hc => ?_) (fun hc => ?_) <;> try (exfalso; omega)) | (refine gn (fun hc => ?_) (fun hc => ?_) <;> try (exfalso; omega)) | refine aw ?_ | refine pes ?_ | refine pns ?_ | refine sw ?_ | refine ng ?_ | refine aeq ?_ | refine ane ?_ | refine sli rfl ?_ | refine slil rfl ?_ | refine slih rfl ?_ | refine cb (fun hc => ?_) (fun hc => ?_) | refine gs (fun hc => ?_) (fun hc => ?_))
  all_goals refine rt ?_
  · rw [show D.turn = (7, { D with dead := true }) by simp [DiskS.turn, hc]]; exact ⟨_, ⟨rfl, rfl⟩, _, by repeat constructor⟩
  · rw [show D.turn = (0, { D with fuse := max (D.fuse - 1) (-1) }) by simp [DiskS.turn, hc]]; exact ⟨_, ⟨rfl, rfl⟩, _, by repeat constructor⟩

theorem find_tr (d m : Nat) (D : DiskS) (n : Nm) :
    Tr Tryz.prog 78 [.pointer (some ⟨d, 0, none⟩), vs n] [blk d (dcell m D), mp fmap m D.files]
      fun v Γ => v = .tuple #[fileE (D.find n).1, .int .i64 (D.find n).2] ∧ Γ = [blk d (dcell m D), mp fmap m D.files] := by
  refine Tr_of_J Tryz.func78 follows rfl Tryz.ntmps78 (by simp) fun B F => ?_
  repeat' (first | refine lko (M := fmap) (q := n) rfl rfl (fun f hf => ?_) (fun hf => ?_) | refine mv ?_ | refine asn ?_ | refine jn ?_ | refine nl ?_ | refine ld rfl ?_ | refine nc ?_ | refine f0 ?_ | refine xt2 ?_ | refine sq ?_ | refine rg ?_ | refine lnb ?_ | refine lls rfl ?_ | refine ad ?_ | refine sb ?_ | refine lss ?_ | refine eql ?_ | refine neq ?_ | refine gtr ?_ | refine geq ?_ | refine leq ?_ | refine nt ?_ | refine pen ?_ | refine pnn ?_ | refine p1 ?_ | refine p0 ?_ | refine sk2 ?_ | refine kp ?_ | refine ct ?_ | refine cf ?_ | (refine cd (fun hc => ?_) (fun hc => ?_) <;> try (exfalso; omega)) | (refine cn (fun hc => ?_) (fun hc => ?_) <;> try (exfalso; omega)) | refine bl ?_ | refine ib ?_ | refine xt ?_ | refine bx (fun b_ => ?_) | refine al (fun b_ => ?_) | refine sr rfl ?_ | refine la rfl ?_ | refine ixa rfl rfl ?_ | refine fe ?_ | refine lde rfl ?_ | refine lae rfl ?_ | refine fa ?_ | refine bld ?_ | refine mf2 ?_ | refine seq ?_ | refine sne ?_ | refine cc ?_ | refine ixb ?_ | refine slb ?_ | refine slbl ?_ | refine slbh ?_ | refine cv ?_ | refine mx ?_ | refine mn ?_ | refine ml ?_ | refine af_ ?_ | (refine gd (fun hc => ?_) (fun hc => ?_) <;> try (exfalso; omega)) | (refine gn (fun hc => ?_) (fun hc => ?_) <;> try (exfalso; omega)) | refine aw ?_ | refine pes ?_ | refine pns ?_ | refine sw ?_ | refine ng ?_ | refine aeq ?_ | refine ane ?_ | refine sli rfl ?_ | refine slil rfl ?_ | refine slih rfl ?_ | refine cb (fun hc => ?_) (fun hc => ?_) | refine gs (fun hc => ?_) (fun hc => ?_))
  all_goals refine rt ?_ rfl (.agg rfl (by repeat constructor) (by repeat constructor))
  · have e : D.find n = (.none, 7) := by simp [DiskS.find, hc]
    exact ⟨_, ⟨by rw [e]; rfl, rfl⟩, _, by repeat constructor⟩
  · have e : D.find n = (f, 0) := by simp [DiskS.find, hc, hf]
    exact ⟨_, ⟨by rw [e]; rfl, rfl⟩, _, by repeat constructor⟩
  · have e : D.find n = (.none, 4) := by simp [DiskS.find, hc, hf]
    exact ⟨_, ⟨by rw [e]; rfl, rfl⟩, _, by repeat constructor⟩

theorem size_tr (d m : Nat) (D : DiskS) (h : D.Ok) :
    Tr Tryz.prog 30 [.pointer (some ⟨d, 0, none⟩)] [blk d (dcell m D), mp fmap m D.files]
      fun v Γ => v = .int .i64 (DiskS.total D.files) ∧ Γ = [blk d (dcell m D), mp fmap m D.files] := by
  refine Tr_of_J Tryz.func30 follows rfl Tryz.ntmps30 (by simp) fun B F => ?_
  repeat' (first | refine rgm rfl (fun it => ?_) | refine mv ?_ | refine asn ?_ | refine jn ?_ | refine nl ?_ | refine ld rfl ?_ | refine nc ?_ | refine f0 ?_ | refine xt2 ?_ | refine sq ?_ | refine rg ?_ | refine lnb ?_ | refine lls rfl ?_ | refine ad ?_ | refine sb ?_ | refine lss ?_ | refine eql ?_ | refine neq ?_ | refine gtr ?_ | refine geq ?_ | refine leq ?_ | refine nt ?_ | refine pen ?_ | refine pnn ?_ | refine p1 ?_ | refine p0 ?_ | refine sk2 ?_ | refine kp ?_ | refine ct ?_ | refine cf ?_ | (refine cd (fun hc => ?_) (fun hc => ?_) <;> try (exfalso; omega)) | (refine cn (fun hc => ?_) (fun hc => ?_) <;> try (exfalso; omega)) | refine bl ?_ | refine ib ?_ | refine xt ?_ | refine bx (fun b_ => ?_) | refine al (fun b_ => ?_) | refine sr rfl ?_ | refine la rfl ?_ | refine ixa rfl rfl ?_ | refine fe ?_ | refine lde rfl ?_ | refine lae rfl ?_ | refine fa ?_ | refine bld ?_ | refine mf2 ?_ | refine seq ?_ | refine sne ?_ | refine cc ?_ | refine ixb ?_ | refine slb ?_ | refine slbl ?_ | refine slbh ?_ | refine cv ?_ | refine mx ?_ | refine mn ?_ | refine ml ?_ | refine af_ ?_ | (refine gd (fun hc => ?_) (fun hc => ?_) <;> try (exfalso; omega)) | (refine gn (fun hc => ?_) (fun hc => ?_) <;> try (exfalso; omega)) | refine aw ?_ | refine pes ?_ | refine pns ?_ | refine sw ?_ | refine ng ?_ | refine aeq ?_ | refine ane ?_ | refine sli rfl ?_ | refine slil rfl ?_ | refine slih rfl ?_ | refine cb (fun hc => ?_) (fun hc => ?_) | refine gs (fun hc => ?_) (fun hc => ?_))
  refine lp (α := Int × List (Nm × FileS) × Option (Nm × FileS)) (fun x => [(3, .int .i64 x.1), (10, .pointer (some ⟨it, 0, none⟩))]) (fun x => [mpi fmap m it D.files x.2.1 x.2.2, blk d (dcell m D)]) (fun x => 0 ≤ x.1 ∧ x.1 + DiskS.total x.2.1 = DiskS.total D.files) (fun x => x.2.1.length) (0, D.files, none) ?_ ⟨Int.le_refl 0, by simp⟩
  rintro ⟨n, left, cur⟩ ⟨hn, ht⟩ again
  dsimp only at hn ht again ⊢
  have := h.sz
  have := h.m1
  repeat' (first | refine nxt rfl (fun hl => ?_) (fun p l1 l2 hl => have hq : DiskS.total left = p.2.bytes.length + DiskS.total (l1 ++ l2) := (by rw [hl, total_append, total_cons, total_append]; omega); ?_) | refine ent rfl ?_ | refine mv ?_ | refine asn ?_ | refine jn ?_ | refine nl ?_ | refine ld rfl ?_ | refine nc ?_ | refine f0 ?_ | refine xt2 ?_ | refine sq ?_ | refine rg ?_ | refine lnb ?_ | refine lls rfl ?_ | refine ad ?_ | refine sb ?_ | refine lss ?_ | refine eql ?_ | refine neq ?_ | refine gtr ?_ | refine geq ?_ | refine leq ?_ | refine nt ?_ | refine pen ?_ | refine pnn ?_ | refine p1 ?_ | refine p0 ?_ | refine sk2 ?_ | refine kp ?_ | refine ct ?_ | refine cf ?_ | (refine cd (fun hc => ?_) (fun hc => ?_) <;> try (exfalso; omega)) | (refine cn (fun hc => ?_) (fun hc => ?_) <;> try (exfalso; omega)) | refine bl ?_ | refine ib ?_ | refine xt ?_ | refine bx (fun b_ => ?_) | refine al (fun b_ => ?_) | refine sr rfl ?_ | refine la rfl ?_ | refine ixa rfl rfl ?_ | refine fe ?_ | refine lde rfl ?_ | refine lae rfl ?_ | refine fa ?_ | refine bld ?_ | refine mf2 ?_ | refine seq ?_ | refine sne ?_ | refine cc ?_ | refine ixb ?_ | refine slb ?_ | refine slbl ?_ | refine slbh ?_ | refine cv ?_ | refine mx ?_ | refine mn ?_ | refine ml ?_ | refine af_ ?_ | (refine gd (fun hc => ?_) (fun hc => ?_) <;> try (exfalso; omega)) | (refine gn (fun hc => ?_) (fun hc => ?_) <;> try (exfalso; omega)) | refine aw ?_ | refine pes ?_ | refine pns ?_ | refine sw ?_ | refine ng ?_ | refine aeq ?_ | refine ane ?_ | refine sli rfl ?_ | refine slil rfl ?_ | refine slih rfl ?_ | refine cb (fun hc => ?_) (fun hc => ?_) | refine gs (fun hc => ?_) (fun hc => ?_))
  · subst hl
    have e : n = DiskS.total D.files := by simpa [DiskS.total] using ht
    refine J_sat ?_ fun w hS => mpi_done hS
    refine rt ?_
    exact ⟨_, ⟨by rw [← e]; rfl, rfl⟩, _, by repeat constructor⟩
  · exact ag (again (n + p.2.bytes.length, l1 ++ l2, some p) ⟨by dsimp only; omega, by dsimp only; omega⟩ (by subst hl; simp))

theorem dead_tr (d m : Nat) (D : DiskS) : Tr Tryz.prog 14 [.pointer (some ⟨d, 0, none⟩)] [blk d (dcell m D)] fun v Γ => v = .bool D.dead ∧ Γ = [blk d (dcell m D)] := by
  refine Tr_of_J Tryz.func14 follows rfl Tryz.ntmps14 (by simp) fun B F => ?_
  repeat' (first | refine mv ?_ | refine asn ?_ | refine jn ?_ | refine nl ?_ | refine ld rfl ?_ | refine nc ?_ | refine f0 ?_ | refine xt2 ?_ | refine sq ?_ | refine rg ?_ | refine lnb ?_ | refine lls rfl ?_ | refine ad ?_ | refine sb ?_ | refine lss ?_ | refine eql ?_ | refine neq ?_ | refine gtr ?_ | refine geq ?_ | refine leq ?_ | refine nt ?_ | refine pen ?_ | refine pnn ?_ | refine p1 ?_ | refine p0 ?_ | refine sk2 ?_ | refine kp ?_ | refine ct ?_ | refine cf ?_ | (refine cd (fun hc => ?_) (fun hc => ?_) <;> try (exfalso; omega)) | (refine cn (fun hc => ?_) (fun hc => ?_) <;> try (exfalso; omega)) | refine bl ?_ | refine ib ?_ | refine xt ?_ | refine bx (fun b_ => ?_) | refine al (fun b_ => ?_) | refine sr rfl ?_ | refine la rfl ?_ | refine ixa rfl rfl ?_ | refine fe ?_ | refine lde rfl ?_ | refine lae rfl ?_ | refine fa ?_ | refine bld ?_ | refine mf2 ?_ | refine seq ?_ | refine sne ?_ | refine cc ?_ | refine ixb ?_ | refine slb ?_ | refine slbl ?_ | refine slbh ?_ | refine cv ?_ | refine mx ?_ | refine mn ?_ | refine ml ?_ | refine af_ ?_ | (refine gd (fun hc => ?_) (fun hc => ?_) <;> try (exfalso; omega)) | (refine gn (fun hc => ?_) (fun hc => ?_) <;> try (exfalso; omega)) | refine aw ?_ | refine pes ?_ | refine pns ?_ | refine sw ?_ | refine ng ?_ | refine aeq ?_ | refine ane ?_ | refine sli rfl ?_ | refine slil rfl ?_ | refine slih rfl ?_ | refine cb (fun hc => ?_) (fun hc => ?_) | refine gs (fun hc => ?_) (fun hc => ?_))
  refine rt ?_
  exact ⟨_, ⟨rfl, rfl⟩, _, by repeat constructor⟩
theorem fuse_tr (d m : Nat) (D : DiskS) (n : Int) : Tr Tryz.prog 22 [.pointer (some ⟨d, 0, none⟩), .int .i64 n] [blk d (dcell m D)] fun v Γ => Γ = [blk d (dcell m { D with fuse := max n (-1) })] := by
  refine Tr_of_J Tryz.func22 follows rfl Tryz.ntmps22 (by simp) fun B F => ?_
  repeat' (first | refine mv ?_ | refine asn ?_ | refine jn ?_ | refine nl ?_ | refine ld rfl ?_ | refine nc ?_ | refine f0 ?_ | refine xt2 ?_ | refine sq ?_ | refine rg ?_ | refine lnb ?_ | refine lls rfl ?_ | refine ad ?_ | refine sb ?_ | refine lss ?_ | refine eql ?_ | refine neq ?_ | refine gtr ?_ | refine geq ?_ | refine leq ?_ | refine nt ?_ | refine pen ?_ | refine pnn ?_ | refine p1 ?_ | refine p0 ?_ | refine sk2 ?_ | refine kp ?_ | refine ct ?_ | refine cf ?_ | (refine cd (fun hc => ?_) (fun hc => ?_) <;> try (exfalso; omega)) | (refine cn (fun hc => ?_) (fun hc => ?_) <;> try (exfalso; omega)) | refine bl ?_ | refine ib ?_ | refine xt ?_ | refine bx (fun b_ => ?_) | refine al (fun b_ => ?_) | refine sr rfl ?_ | refine la rfl ?_ | refine ixa rfl rfl ?_ | refine fe ?_ | refine lde rfl ?_ | refine lae rfl ?_ | refine fa ?_ | refine bld ?_ | refine mf2 ?_ | refine seq ?_ | refine sne ?_ | refine cc ?_ | refine ixb ?_ | refine slb ?_ | refine slbl ?_ | refine slbh ?_ | refine cv ?_ | refine mx ?_ | refine mn ?_ | refine ml ?_ | refine af_ ?_ | (refine gd (fun hc => ?_) (fun hc => ?_) <;> try (exfalso; omega)) | (refine gn (fun hc => ?_) (fun hc => ?_) <;> try (exfalso; omega)) | refine aw ?_ | refine pes ?_ | refine pns ?_ | refine sw ?_ | refine ng ?_ | refine aeq ?_ | refine ane ?_ | refine sli rfl ?_ | refine slil rfl ?_ | refine slih rfl ?_ | refine cb (fun hc => ?_) (fun hc => ?_) | refine gs (fun hc => ?_) (fun hc => ?_))
  refine rte ?_
  exact ⟨_, rfl, _, by repeat constructor⟩
theorem read_tr (d m : Nat) (D : DiskS) (n : Nm) : Tr Tryz.prog 46 [.pointer (some ⟨d, 0, none⟩), vs n] [blk d (dcell m D), mp fmap m D.files]
    fun v Γ => v = .tuple #[vs (D.find n).1.bytes, .int .i64 (D.find n).2] ∧ Γ = [blk d (dcell m D), mp fmap m D.files] := by
  refine Tr_of_J Tryz.func46 follows rfl Tryz.ntmps46 (by simp) fun B F => ?_
  repeat' (first | (refine cl (find_tr d m D n) ?_; rintro v Γ' ⟨rfl, rfl⟩) | refine mv ?_ | refine asn ?_ | refine jn ?_ | refine nl ?_ | refine ld rfl ?_ | refine nc ?_ | refine f0 ?_ | refine xt2 ?_ | refine sq ?_ | refine rg ?_ | refine lnb ?_ | refine lls rfl ?_ | refine ad ?_ | refine sb ?_ | refine lss ?_ | refine eql ?_ | refine neq ?_ | refine gtr ?_ | refine geq ?_ | refine leq ?_ | refine nt ?_ | refine pen ?_ | refine pnn ?_ | refine p1 ?_ | refine p0 ?_ | refine sk2 ?_ | refine kp ?_ | refine ct ?_ | refine cf ?_ | (refine cd (fun hc => ?_) (fun hc => ?_) <;> try (exfalso; omega)) | (refine cn (fun hc => ?_) (fun hc => ?_) <;> try (exfalso; omega)) | refine bl ?_ | refine ib ?_ | refine xt ?_ | refine bx (fun b_ => ?_) | refine al (fun b_ => ?_) | refine sr rfl ?_ | refine la rfl ?_ | refine ixa rfl rfl ?_ | refine fe ?_ | refine lde rfl ?_ | refine lae rfl ?_ | refine fa ?_ | refine bld ?_ | refine mf2 ?_ | refine seq ?_ | refine sne ?_ | refine cc ?_ | refine ixb ?_ | refine slb ?_ | refine slbl ?_ | refine slbh ?_ | refine cv ?_ | refine mx ?_ | refine mn ?_ | refine ml ?_ | refine af_ ?_ | (refine gd (fun hc => ?_) (fun hc => ?_) <;> try (exfalso; omega)) | (refine gn (fun hc => ?_) (fun hc => ?_) <;> try (exfalso; omega)) | refine aw ?_ | refine pes ?_ | refine pns ?_ | refine sw ?_ | refine ng ?_ | refine aeq ?_ | refine ane ?_ | refine sli rfl ?_ | refine slil rfl ?_ | refine slih rfl ?_ | refine cb (fun hc => ?_) (fun hc => ?_) | refine gs (fun hc => ?_) (fun hc => ?_))
  all_goals refine rt ?_
  · have e : (D.find n).1.bytes = [] := by
      unfold DiskS.find at hc ⊢
      split
      · rfl
      · rename_i hd
        rw [if_neg hd] at hc
        cases ha : assoc D.files n with
        | none => rfl
        | some f => rw [ha] at hc; exact absurd rfl hc
    exact ⟨_, ⟨by rw [e]; rfl, rfl⟩, _, by repeat constructor⟩
  · exact ⟨_, ⟨by rw [hc]; rfl, rfl⟩, _, by repeat constructor⟩
end Go.Proofs.YtaeefjcbmkiiaaaGreatDoor
