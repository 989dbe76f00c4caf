/- The law: are there not too many acts, and none too long. -/
import Derived.Test.YtaeefjcbmkiiaaaGreatDoorL1
namespace Go.Proofs.YtaeefjcbmkiiaaaGreatDoor
open Go Sl
attribute [local irreducible] J JR JS RO CR Arr Sat Tr sat blk
set_option linter.unusedVariables false
set_option maxHeartbeats 1000000
set_option maxRecDepth 4000
def isSmall (l : List Act) : Prop := l.length ≤ 40 ∧ ∀ a ∈ l, a.data.length ≤ 700
theorem actGetD {l : List Act} {i : Nat} (h : i < l.length) : l.getD i actE.dflt = l[i] := by rw [List.getD_eq_getElem?_getD, List.getElem?_eq_getElem h]; rfl
theorem small_tr (lv : Value) (l : List Act) (hl : l.length ≤ 9223372036854775807) : Tr Tryz.prog 9 [lv] [rsl actE lv l]
    fun v Γ => (∃ b : Bool, v = .bool b ∧ (b = true → isSmall l)) ∧ Γ = [rsl actE lv l] := by
  refine Tr_of_J Tryz.func9 follows rfl Tryz.ntmps9 (by simp) fun B F => ?_
  repeat' (first | refine mv ?_ | refine asn ?_ | refine jn ?_ | refine nl ?_ | refine ld rfl ?_ | refine nc ?_ | refine f0 ?_ | refine xt2 ?_ | refine sq ?_ | refine rg ?_ | refine lnb ?_ | refine lls rfl ?_ | refine ad ?_ | refine sb ?_ | refine lss ?_ | refine eql ?_ | refine neq ?_ | refine gtr ?_ | refine geq ?_ | refine leq ?_ | refine nt ?_ | refine pen ?_ | refine pnn ?_ | refine p1 ?_ | refine p0 ?_ | refine sk2 ?_ | refine kp ?_ | refine ct ?_ | refine cf ?_ | (refine cd (fun hc => ?_) (fun hc => ?_) <;> try (exfalso; omega)) | (refine cn (fun hc => ?_) (fun hc => ?_) <;> try (exfalso; omega)) | refine bl ?_ | refine ib ?_ | refine xt ?_ | refine bx (fun b_ => ?_) | refine al (fun b_ => ?_) | refine sr rfl ?_ | refine la rfl ?_ | refine ixa rfl rfl ?_ | refine fe ?_ | refine lde rfl ?_ | refine lae rfl ?_ | refine fa ?_ | refine bld ?_ | refine mf2 ?_ | refine seq ?_ | refine sne ?_ | refine cc ?_ | refine ixb ?_ | refine slb ?_ | refine slbl ?_ | refine slbh ?_ | refine cv ?_ | refine mx ?_ | refine mn ?_ | refine ml ?_ | refine af_ ?_ | (refine gd (fun hc => ?_) (fun hc => ?_) <;> try (exfalso; omega)) | (refine gn (fun hc => ?_) (fun hc => ?_) <;> try (exfalso; omega)) | refine aw ?_ | refine pes ?_ | refine pns ?_ | refine sw ?_ | refine ng ?_ | refine aeq ?_ | refine ane ?_ | refine sli rfl ?_ | refine slil rfl ?_ | refine slih rfl ?_ | refine cb (fun hc => ?_) (fun hc => ?_) | refine gs (fun hc => ?_) (fun hc => ?_))
  · refine rt ?_
    exact ⟨_, ⟨⟨false, rfl, fun h => by cases h⟩, rfl⟩, _, by repeat constructor⟩
  have h40 : l.length ≤ 40 := by omega
  refine lp (α := Nat × Int) (fun y => [(0, lv), (3, .int .i64 y.2)]) (fun y => [rsl actE lv l]) (fun y => y.2 = (y.1 : Int) ∧ y.1 ≤ l.length ∧ ∀ a ∈ l.take y.1, a.data.length ≤ 700) (fun y => l.length - y.1) (0, 0) ?_ ⟨rfl, Nat.zero_le _, fun a ha => by simp at ha⟩
  rintro ⟨i, n⟩ ⟨hn, hi, hr⟩ again
  dsimp only at hn hi hr again ⊢
  subst hn
  repeat' (first | refine ll ?_ | refine mv ?_ | refine asn ?_ | refine jn ?_ | refine nl ?_ | refine ld rfl ?_ | refine nc ?_ | refine f0 ?_ | refine xt2 ?_ | refine sq ?_ | refine rg ?_ | refine lnb ?_ | refine lls rfl ?_ | refine ad ?_ | refine sb ?_ | refine lss ?_ | refine eql ?_ | refine neq ?_ | refine gtr ?_ | refine geq ?_ | refine leq ?_ | refine nt ?_ | refine pen ?_ | refine pnn ?_ | refine p1 ?_ | refine p0 ?_ | refine sk2 ?_ | refine kp ?_ | refine ct ?_ | refine cf ?_ | (refine cd (fun hc => ?_) (fun hc => ?_) <;> try (exfalso; omega)) | (refine cn (fun hc => ?_) (fun hc => ?_) <;> try (exfalso; omega)) | refine bl ?_ | refine ib ?_ | refine xt ?_ | refine bx (fun b_ => ?_) | refine al (fun b_ => ?_) | refine sr rfl ?_ | refine la rfl ?_ | refine ixa rfl rfl ?_ | refine fe ?_ | refine lde rfl ?_ | refine lae rfl ?_ | refine fa ?_ | refine bld ?_ | refine mf2 ?_ | refine seq ?_ | refine sne ?_ | refine cc ?_ | refine ixb ?_ | refine slb ?_ | refine slbl ?_ | refine slbh ?_ | refine cv ?_ | refine mx ?_ | refine mn ?_ | refine ml ?_ | refine af_ ?_ | (refine gd (fun hc => ?_) (fun hc => ?_) <;> try (exfalso; omega)) | (refine gn (fun hc => ?_) (fun hc => ?_) <;> try (exfalso; omega)) | refine aw ?_ | refine pes ?_ | refine pns ?_ | refine sw ?_ | refine ng ?_ | refine aeq ?_ | refine ane ?_ | refine sli rfl ?_ | refine slil rfl ?_ | refine slih rfl ?_ | refine cb (fun hc => ?_) (fun hc => ?_) | refine gs (fun hc => ?_) (fun hc => ?_))
  all_goals first
    | (refine rt ?_
       exact ⟨_, ⟨⟨false, rfl, fun h => by cases h⟩, rfl⟩, _, by repeat constructor⟩)
    | skip
  · have hi' : i < l.length := by omega
    have hda : (l.getD i actE.dflt).data.length ≤ 700 := by
      have h1 : ¬ (700 : Int) < ((l.getD (i : Int).toNat actE.dflt).data.length : Int) := by assumption
      have h2 : (l.getD (i : Int).toNat actE.dflt) = l.getD i actE.dflt := rfl
      rw [h2] at h1; omega
    exact ag (again (i + 1, (i : Int) + 1) ⟨by dsimp only; omega, hi', by
      intro a ha
      dsimp only at ha
      rw [List.take_succ_eq_append_getElem hi'] at ha
      rcases List.mem_append.1 ha with ha | ha
      · exact hr a ha
      · rw [List.mem_singleton.1 ha, ← actGetD hi']; exact hda⟩ (by dsimp only; omega))
  · have hil : i = l.length := by omega
    rw [hil, List.take_length] at hr
    refine rt ?_
    exact ⟨_, ⟨⟨true, rfl, fun _ => ⟨h40, hr⟩⟩, rfl⟩, _, by repeat constructor⟩
end Go.Proofs.YtaeefjcbmkiiaaaGreatDoor
