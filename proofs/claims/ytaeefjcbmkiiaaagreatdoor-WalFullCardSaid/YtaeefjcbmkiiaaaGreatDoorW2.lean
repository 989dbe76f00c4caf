/- The log: an entry put. -/
import Derived.Test.YtaeefjcbmkiiaaaGreatDoorW1
namespace Go.Proofs.YtaeefjcbmkiiaaaGreatDoor
open Go Sl
attribute [local irreducible] J JR JS RO CR Arr Sat Tr sat blk
set_option linter.unusedVariables false
set_option maxHeartbeats 400000
set_option maxRecDepth 4000
section
open Go.RowKit
variable {c : Ctx} {k : List Item} {st : St} {Γ : List Assn} {d : Option Tmp} {ty : TypeId} {pos : String} {af : Array Edge} {g : Option (Nat × Bool)} {ops : Array Oper} {rs : List Oper} {l : List Stp} {fl : Bool}
/-- append(s[:n], xs...), s owned, xs read. -/
theorem apt {x y : Operand} {T : TypeId} {α : Type} {e : EncT α} {L X : List α} {E bb n : Nat} {z s v : Value} {Γ' : List Assn} [ht : TSlice c.P T E] [hz : ESize c.P E e.sz bb] [hZ : TZero c.P E z] (hx : Sl.ev st x = some (vw v 0 n e.sz)) (hy : Sl.ev st y = some s) [hs : SelS Γ v E e L Γ'] [hr : RdG Γ s e X] (hn : n ≤ L.length) (h : ∀ v', JS c ops rs l k (stput d v' st) (sl E e v' (L.take n ++ X) :: Γ'))
    (hb : ((L.take n).length + X.length) * bb ≤ 140737488355328) (hm : (L.take n).length + X.length ≤ 9223372036854775807) (hzl : z.cells.size = e.sz := by rfl) (hg : gOk ops st ⟨d, .call ⟨.builtin .append, #[x, y], #[T, T]⟩, ty, pos, af, g⟩ = some true := by rfl) (hd : dOk d c.n = true := by rfl) :
    JR c ops (⟨⟨d, .call ⟨.builtin .append, #[x, y], #[T, T]⟩, ty, pos, af, g⟩, false, rs⟩ :: l) k st Γ :=
  apd hx hy (fun B F w hS => tgt_take hn (tgt_sl (hS.perm hs.h.perm))) (fun B F w hS => hr.h B F w hS) h hb hm hzl hg hd
theorem RO_sub_eq {x y : Operand} {T U : TypeId} {i : IntKind} {m n r : Int} (hx : ev st x = some (.int i m)) (hy : ev st y = some (.int i n)) (he : i.wrap (m - n) = r) : RO c st Γ ⟨d, .binOp .sub T x y U, ty, pos, af, g⟩ (.int i r) := by
  subst he; exact RO_sub hx hy
end
theorem put_tr (w d : Nat) (h : Hrd) (ev sv : Value) (L : List Ent) (S : List Seg) (e : Ent) (he : e.In) (he0 : 0 < e.index) (hL : Rise L) (hS : S ≠ []) (hSl : S.length ≤ 100000) (hLl : L.length ≤ 1000000) :
    Tr Tryz.prog 60 [.pointer (some ⟨w, 0, none⟩), entV e] [blk w (lcell d h ev sv), sl 70 entE ev L, sl 94 segE sv S]
      fun v Γ => ∃ ev', Γ = [blk w (lcell d h ev' sv), sl 70 entE ev' (putE L e), sl 94 segE sv (setTop S e.index)] := by
  have hS0 : 0 < S.length := List.length_pos_iff.2 hS
  refine Tr_of_J Tryz.func60 follows rfl Tryz.ntmps60 (by simp) fun B F => ?_
  repeat' (first | refine bsl (e := entE) (X := [e]) (fun v2 => ?_) (.cona rfl rfl .nil) | refine sro rfl rfl ?_ | refine sre rfl ?_ | refine mv ?_ | refine asn ?_ | refine jn ?_ | refine nl ?_ | refine ld rfl ?_ | refine nc ?_ | refine f0 ?_ | refine xt2 ?_ | refine sq ?_ | refine rg ?_ | refine lnb ?_ | refine lls rfl ?_ | refine ad ?_ | refine sb ?_ | refine lss ?_ | refine eql ?_ | refine neq ?_ | refine gtr ?_ | refine geq ?_ | refine leq ?_ | refine nt ?_ | refine pen ?_ | refine pnn ?_ | refine p1 ?_ | refine p0 ?_ | refine sk2 ?_ | refine kp ?_ | refine ct ?_ | refine cf ?_ | (refine cd (fun hc => ?_) (fun hc => ?_) <;> try (exfalso; omega)) | (refine cn (fun hc => ?_) (fun hc => ?_) <;> try (exfalso; omega)) | refine bl ?_ | refine ib ?_ | refine xt ?_ | refine bx (fun b_ => ?_) | refine al (fun b_ => ?_) | refine sr rfl ?_ | refine la rfl ?_ | refine ixa rfl rfl ?_ | refine fe ?_ | refine lde rfl ?_ | refine lae rfl ?_ | refine fa ?_ | refine bld ?_ | refine mf2 ?_ | refine seq ?_ | refine sne ?_ | refine cc ?_ | refine ixb ?_ | refine slb ?_ | refine slbl ?_ | refine slbh ?_ | refine cv ?_ | refine mx ?_ | refine mn ?_ | refine ml ?_ | refine af_ ?_ | (refine gd (fun hc => ?_) (fun hc => ?_) <;> try (exfalso; omega)) | (refine gn (fun hc => ?_) (fun hc => ?_) <;> try (exfalso; omega)) | refine aw ?_ | refine pes ?_ | refine pns ?_ | refine sw ?_ | refine ng ?_ | refine aeq ?_ | refine ane ?_ | refine sli rfl ?_ | refine slil rfl ?_ | refine slih rfl ?_ | refine cb (fun hc => ?_) (fun hc => ?_) | refine gs (fun hc => ?_) (fun hc => ?_) | refine J_draw (id := 1) [(0, true, []), (1, true, []), (2, true, []), (3, true, []), (4, true, []), (5, true, []), (6, true, []), (7, true, []), (8, true, []), (9, true, []), (10, true, []), (11, true, [])] (by kernel_rfl) ?_ | refine J_draw (id := 2) [(0, true, []), (1, true, []), (2, true, []), (3, true, []), (4, true, []), (5, true, []), (6, true, []), (7, true, []), (8, true, []), (9, true, []), (10, false, [])] (by kernel_rfl) ?_ | refine J_draw (id := 4) [(0, true, []), (1, true, []), (2, true, []), (3, true, []), (4, true, []), (5, true, []), (6, true, []), (7, true, []), (8, true, []), (9, true, []), (10, true, []), (11, true, []), (12, true, []), (13, true, []), (14, true, []), (15, true, []), (16, true, []), (17, true, []), (18, true, []), (19, true, []), (20, true, []), (21, true, []), (22, true, []), (23, true, []), (24, true, []), (25, true, []), (26, true, []), (27, true, []), (28, true, [])] (by kernel_rfl) ?_ | refine J_draw (id := 6) [(0, true, []), (1, true, []), (2, true, []), (3, true, []), (4, true, []), (5, true, []), (6, true, []), (7, true, []), (8, true, []), (9, true, []), (10, true, []), (11, true, []), (12, true, []), (13, true, []), (14, true, []), (15, true, []), (16, true, []), (17, false, [0, 1, 2, 3, 4, 5, 6, 7, 8, 9, 10, 11, 12, 13, 14, 15]), (18, false, [0]), (19, true, []), (20, true, []), (21, false, [])] (by kernel_rfl) ?_ | refine JS_cons rfl rfl (RO_move rfl) ?_ | refine JS_cons rfl rfl (RO_nilCheck rfl) ?_ | refine JS_cons rfl rfl (RO_fieldAddr0 rfl) ?_ | refine JS_cons rfl rfl (RO_load rfl (by rfl)) ?_ | refine JS_off rfl ?_ | refine JS_cons rfl rfl (RO_extract rfl rfl) ?_ | refine JS_cons rfl rfl (RO_not rfl) ?_ | refine JS_cons rfl rfl (RO_fieldAddr rfl) ?_ | refine JS_cons rfl rfl (RO_lnb rfl) ?_ | refine JS_cons rfl rfl (RO_lls rfl) ?_ | refine JS_cons rfl rfl (RO_add_in rfl rfl (by omega)) ?_ | refine JS_cons rfl rfl (RO_sub_in rfl rfl (by omega)) ?_ | refine JS_cons rfl rfl (RO_ixa rfl rfl (by omega)) ?_ | refine JS_cons rfl rfl (RO_fe rfl) ?_ | refine JS_cons rfl rfl (RO_lde rfl (by omega) rfl) ?_ | refine JS_cons rfl rfl (RO_slih rfl rfl (by omega)) ?_ | refine JS_cons rfl rfl (RO_slil rfl rfl (by omega)) ?_ | refine JS_offu rfl ?_ | refine JS_cons rfl rfl (RO_cc rfl rfl (by omega)) ?_ | refine JS_cons rfl rfl (RO_bld rfl (by (repeat (first | exact FillS.nil | (apply FillS.cons; rfl; rfl; constructor; rfl; (focus repeat constructor)))))) ?_ | refine JS_cons rfl rfl (RO_lae rfl (by omega) (by repeat constructor)) ?_ | refine JS_cons rfl rfl (RO_loadAgg rfl (by repeat constructor)) ?_)
  · rw [show putE L e = [e] by simp_all [putE]]
    refine rt ?_
    exact ⟨_, ⟨_, rfl⟩, _, by repeat constructor⟩
  · rw [show putE L e = [e] from if_pos (.inr (.inl ‹_›))]
    refine rt ?_
    exact ⟨_, ⟨_, rfl⟩, _, by repeat constructor⟩
  · rw [show putE L e = [e] from if_pos (.inr (.inr ‹_›))]
    refine rt ?_
    exact ⟨_, ⟨_, rfl⟩, _, by repeat constructor⟩
  · rename_i h1 h2
    have h3 : ¬ e.index < (headE L).index := ‹_›
    have h0 : 0 < L.length := by omega
    have hlast : (lastE L).index = (headE L).index + (L.length - 1 : Nat) := by
      have := hL.up (L.length - 1) (by omega)
      unfold lastE headE
      rw [show ((L.length : Int) - 1).toNat = L.length - 1 by omega]
      exact this
    have hmem : ∀ i, i < L.length → I64 (L.getD i .none).index := fun i hi => by
      rw [List.getD_eq_getElem?_getD, List.getElem?_eq_getElem hi]
      exact (hL.in_ _ (List.getElem_mem hi)).i
    have hA : I64 (lastE L).index := hmem _ (by omega)
    have hB : I64 (headE L).index := hmem _ h0
    have hE := he.i
    unfold I64 at hA hB hE
    have hw1 : ¬ IntKind.i64.wrap ((lastE L).index + 1) < e.index := ‹_›
    have hle : e.index - (headE L).index ≤ L.length := by
      by_cases hm : (lastE L).index + 1 ≤ 9223372036854775807
      · rw [wrap_in (by omega) hm] at hw1; omega
      · have : (lastE L).index + 1 = 9223372036854775808 := by omega
        rw [this] at hw1
        have : IntKind.i64.wrap 9223372036854775808 = -9223372036854775808 := by decide
        rw [this] at hw1; omega
    have hw : IntKind.i64.wrap (e.index - (headE L).index) = e.index - (headE L).index := wrap_in (by omega) (by omega)
    have hw' : IntKind.i64.wrap (e.index - (L.getD (Int.toNat 0) entE.dflt).index) = e.index - (headE L).index := hw
    rw [hw']
    have hput : putE L e = L.take (e.index - (headE L).index).toNat ++ [e] := if_neg (by rintro (h | h | h) <;> omega)
    rw [hput]
    have hw2 : IntKind.i64.wrap (e.index - (L.getD (Int.toNat 0) entE.dflt).index) = e.index - (headE L).index := hw'
    have hge : 0 ≤ e.index - (headE L).index := by omega
    generalize hk : e.index - (headE L).index = kk at hle hge hw2 ⊢
    repeat' (first | refine slih rfl ?_ | refine bsl (e := entE) (X := [e]) (fun v2 => ?_) (.cona rfl rfl .nil) | refine JS_cons rfl rfl (RO_sub_eq rfl rfl hw2) ?_ | refine apt rfl rfl (n := kk.toNat) (v := ev) (by omega) (fun v3 => ?_) (by simp; omega) (by simp; omega) | refine sro rfl rfl ?_ | refine mv ?_ | refine asn ?_ | refine jn ?_ | refine nl ?_ | refine ld rfl ?_ | refine nc ?_ | refine f0 ?_ | refine xt2 ?_ | refine sq ?_ | refine rg ?_ | refine lnb ?_ | refine lls rfl ?_ | refine ad ?_ | refine sb ?_ | refine lss ?_ | refine eql ?_ | refine neq ?_ | refine gtr ?_ | refine geq ?_ | refine leq ?_ | refine nt ?_ | refine pen ?_ | refine pnn ?_ | refine p1 ?_ | refine p0 ?_ | refine sk2 ?_ | refine kp ?_ | refine ct ?_ | refine cf ?_ | (refine cd (fun hc => ?_) (fun hc => ?_) <;> try (exfalso; omega)) | (refine cn (fun hc => ?_) (fun hc => ?_) <;> try (exfalso; omega)) | refine bl ?_ | refine ib ?_ | refine xt ?_ | refine bx (fun b_ => ?_) | refine al (fun b_ => ?_) | refine sr rfl ?_ | refine la rfl ?_ | refine ixa rfl rfl ?_ | refine fe ?_ | refine lde rfl ?_ | refine lae rfl ?_ | refine fa ?_ | refine bld ?_ | refine mf2 ?_ | refine seq ?_ | refine sne ?_ | refine cc ?_ | refine ixb ?_ | refine slb ?_ | refine slbl ?_ | refine slbh ?_ | refine cv ?_ | refine mx ?_ | refine mn ?_ | refine ml ?_ | refine af_ ?_ | (refine gd (fun hc => ?_) (fun hc => ?_) <;> try (exfalso; omega)) | (refine gn (fun hc => ?_) (fun hc => ?_) <;> try (exfalso; omega)) | refine aw ?_ | refine pes ?_ | refine pns ?_ | refine sw ?_ | refine ng ?_ | refine aeq ?_ | refine ane ?_ | refine sli rfl ?_ | refine slil rfl ?_ | refine slih rfl ?_ | refine cb (fun hc => ?_) (fun hc => ?_) | refine gs (fun hc => ?_) (fun hc => ?_) | refine J_draw (id := 1) [(0, true, []), (1, true, []), (2, true, []), (3, true, []), (4, true, []), (5, true, []), (6, true, []), (7, true, []), (8, true, []), (9, true, []), (10, true, []), (11, true, [])] (by kernel_rfl) ?_ | refine J_draw (id := 2) [(0, true, []), (1, true, []), (2, true, []), (3, true, []), (4, true, []), (5, true, []), (6, true, []), (7, true, []), (8, true, []), (9, true, []), (10, false, [])] (by kernel_rfl) ?_ | refine J_draw (id := 4) [(0, true, []), (1, true, []), (2, true, []), (3, true, []), (4, true, []), (5, true, []), (6, true, []), (7, true, []), (8, true, []), (9, true, []), (10, true, []), (11, true, []), (12, true, []), (13, true, []), (14, true, []), (15, true, []), (16, true, []), (17, true, []), (18, true, []), (19, true, []), (20, true, []), (21, true, []), (22, true, []), (23, true, []), (24, true, []), (25, true, []), (26, true, []), (27, true, []), (28, true, [])] (by kernel_rfl) ?_ | refine J_draw (id := 6) [(0, true, []), (1, true, []), (2, true, []), (3, true, []), (4, true, []), (5, true, []), (6, true, []), (7, true, []), (8, true, []), (9, true, []), (10, true, []), (11, true, []), (12, true, []), (13, true, []), (14, true, []), (15, true, []), (16, true, []), (17, false, [0, 1, 2, 3, 4, 5, 6, 7, 8, 9, 10, 11, 12, 13, 14, 15]), (18, false, [0]), (19, true, []), (20, true, []), (21, false, [])] (by kernel_rfl) ?_ | refine JS_cons rfl rfl (RO_move rfl) ?_ | refine JS_cons rfl rfl (RO_nilCheck rfl) ?_ | refine JS_cons rfl rfl (RO_fieldAddr0 rfl) ?_ | refine JS_cons rfl rfl (RO_load rfl (by rfl)) ?_ | refine JS_off rfl ?_ | refine JS_cons rfl rfl (RO_extract rfl rfl) ?_ | refine JS_cons rfl rfl (RO_not rfl) ?_ | refine JS_cons rfl rfl (RO_fieldAddr rfl) ?_ | refine JS_cons rfl rfl (RO_lnb rfl) ?_ | refine JS_cons rfl rfl (RO_lls rfl) ?_ | refine JS_cons rfl rfl (RO_add_in rfl rfl (by omega)) ?_ | refine JS_cons rfl rfl (RO_sub_in rfl rfl (by omega)) ?_ | refine JS_cons rfl rfl (RO_ixa rfl rfl (by omega)) ?_ | refine JS_cons rfl rfl (RO_fe rfl) ?_ | refine JS_cons rfl rfl (RO_lde rfl (by omega) rfl) ?_ | refine JS_cons rfl rfl (RO_slih rfl rfl (by omega)) ?_ | refine JS_cons rfl rfl (RO_slil rfl rfl (by omega)) ?_ | refine JS_offu rfl ?_ | refine JS_cons rfl rfl (RO_cc rfl rfl (by omega)) ?_ | refine JS_cons rfl rfl (RO_bld rfl (by (repeat (first | exact FillS.nil | (apply FillS.cons; rfl; rfl; constructor; rfl; (focus repeat constructor)))))) ?_ | refine JS_cons rfl rfl (RO_lae rfl (by omega) (by repeat constructor)) ?_ | refine JS_cons rfl rfl (RO_loadAgg rfl (by repeat constructor)) ?_)
    refine rte ?_
    exact ⟨_, ⟨_, rfl⟩, _, by repeat constructor⟩
end Go.Proofs.YtaeefjcbmkiiaaaGreatDoor
