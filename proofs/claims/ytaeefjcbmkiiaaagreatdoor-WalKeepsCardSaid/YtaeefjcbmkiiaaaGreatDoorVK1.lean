/- A part of a slice that is not empty is not nil: a rule. -/
import Derived.Test.YtaeefjcbmkiiaaaGreatDoorVX6
set_option linter.unusedVariables false
set_option linter.unusedSimpArgs false
namespace Go.Proofs.YtaeefjcbmkiiaaaGreatDoor.Sl
open Go Go.RowKit
section
variable {c : Ctx} {k : List Item} {st : St} {Γ : List Assn} {d : Option Tmp} {ty : TypeId} {pos : String} {af : Array Edge} {g : Option (Nat × Bool)} {ops : Array Oper} {rs : List Oper} {l : List Stp} {fl : Bool} {x y : Operand} {T U : TypeId}
theorem sev {α : Type} {e : EncT α} {L : List α} {E : TypeId} {v : Value} {a b z : Nat} [ht : TSlice c.P T E] (hx : ev st x = some (vw v a b z)) [hr : RdG Γ v e L] (hL : 0 < L.length) (h0 : JR c ops l k (stput d (.bool false) st) Γ) (hy : ev st y = some (.slice none 0 0) := by rfl)
    (hg : gOk ops st ⟨d, .binOp .eql T x y U, ty, pos, af, g⟩ = some true := by rfl) (hd : dOk d c.n = true := by rfl) : JR c ops (⟨⟨d, .binOp .eql T x y U, ty, pos, af, g⟩, fl, []⟩ :: l) k st Γ := by
  refine JR_fact (p := ∃ q n m, vw v a b z = .slice (some q) n m) (fun w hS => ?_) ?_
  · rcases hr.h _ _ _ hS with h | ⟨b', off, cap, cur, E', fz, h1, h2, h3, h4⟩
    · rw [h.2] at hL; exact absurd hL (by simp)
    · rw [h1]
      unfold vw
      by_cases hc : cap = a
      · exact ⟨_, _, _, by dsimp only; rw [if_pos hc]⟩
      · exact ⟨_, _, _, by dsimp only; rw [if_neg hc]; rfl⟩
  · rintro ⟨q, n, m, hv⟩
    refine ro h0 (fun ac w ha _ => ?_) hg hd
    rw [hv] at hx
    simp [execOp, ev_eval ha hx, ev_eval ha hy, run_eqGuard_slice, Lib.run_eql_slice_nil w T E (some q) n m 0 0 ht.h]
end
end Go.Proofs.YtaeefjcbmkiiaaaGreatDoor.Sl
/- The law: an act where the power may go; an entry read, by the document; a beginning of what was to come. -/
namespace Go.Proofs.YtaeefjcbmkiiaaaGreatDoor
open Go Sl
attribute [local irreducible] J JR JS RO CR Arr Sat Tr sat blk
set_option linter.unusedVariables false
set_option linter.unusedSimpArgs false
set_option maxHeartbeats 1000000
set_option maxRecDepth 4000
theorem actG_tr (b w d m : Nat) (W : LogS) (ev sv : Value) (D : DiskS) (hD : D.Ok) (hs : SegOk W) (hh : W.hard.In) (hr : Rise W.ents) (hle : W.ents.length ≤ 1000) (a : Act) (ha : a.In) (hd : a.data.length ≤ 700) (ho : pickI a.op 10 < 7) :
    Tr Tryz.prog 12 [.pointer (some ⟨b, 0, none⟩), actV a] [blk b (wcell d w), blk w (lcell d W.hard ev sv), sl 70 entE ev W.ents, sl 94 segE sv W.segs, blk d (dcell m D), mp fmap m D.files]
      fun v Γ => ∃ ev' sv', v = .int .i64 (actOf W D a).1 ∧ Γ = [blk b (wcell d w), blk w (lcell d (actOf W D a).2.1.hard ev' sv'), sl 70 entE ev' (actOf W D a).2.1.ents, sl 94 segE sv' (actOf W D a).2.1.segs, blk d (dcell m (actOf W D a).2.2), mp fmap m (actOf W D a).2.2.files] := by
  have hl := entriesOf_len a
  have hli : ∀ e ∈ entriesOf a, e.In ∧ e.data.length ≤ 60000 := fun e he => by
    have := entriesOf_in ha e he
    exact ⟨this.1, by rw [this.2.2]; omega⟩
  refine Tr_of_J Tryz.func12 follows rfl Tryz.ntmps12 (by simp) fun B F => ?_
  repeat' (first | (refine cle rfl (pick_tr a.op 10 ha.o (by decide)) ?_; rintro r Γ' ⟨rfl, rfl⟩; refine n0 ?_) | (refine cle rfl (reset_tr w d m W ev sv D hD hh hs.ne (by have := hs.cnt; omega) hs.n0 (by have := hs.n1; omega) hs.z0 hs.z1) ?_; rintro r Γ' ⟨ev2, rfl, rfl⟩; refine n5 ?_) | (refine cle rfl (hardOf_tr a ha) ?_; rintro r Γ' ⟨rfl, rfl⟩; refine n0 ?_) | (refine cle rfl (entriesOf_tr a ha (by omega)) ?_; rintro lv Γ' rfl; refine n1 ?_) | (refine cle rfl (save_tr w d m lv W ev sv D hD (hardOf a) (hardOf_in ha) (entriesOf a) (by omega) hli hs.ne hs.cnt hs.n0 hs.n1 hs.z0 hs.z1 hr (by omega)) ?_; rintro r Γ' ⟨ev2, sv2, rfl, rfl⟩; refine n5 ?_) | refine mv ?_ | refine asn ?_ | refine jn ?_ | refine nl ?_ | refine ld rfl ?_ | refine nc ?_ | refine f0 ?_ | refine xt2 ?_ | refine sq ?_ | refine rg ?_ | refine eql ?_ | refine pnn ?_ | refine p1 ?_ | refine p0 ?_ | refine sk2 ?_ | refine kp ?_ | refine ct ?_ | refine cf ?_ | (refine cd (fun hc => ?_) (fun hc => ?_) <;> try (exfalso; omega)) | (refine cn (fun hc => ?_) (fun hc => ?_) <;> try (exfalso; omega)) | refine bl ?_ | refine ib ?_ | refine xt ?_ | refine bx (fun b_ => ?_) | refine sr rfl ?_ | refine la rfl ?_ | refine fe ?_ | refine lde rfl ?_ | refine lae rfl ?_ | refine fa ?_ | refine seq ?_ | refine af_ ?_ | (refine gd (fun hc => ?_) (fun hc => ?_) <;> try (exfalso; omega)) | (refine gn (fun hc => ?_) (fun hc => ?_) <;> try (exfalso; omega)) | refine pns ?_ | refine aeq ?_ | refine cb (fun hc => ?_) (fun hc => ?_) | refine gs (fun hc => ?_) (fun hc => ?_) | refine J_draw (id := 5) [(0, true, []), (1, true, []), (2, true, []), (3, true, []), (4, true, []), (5, true, []), (6, false, []), (7, true, [])] (by kernel_rfl) ?_ | refine J_draw (id := 7) [(0, true, []), (1, true, []), (2, true, []), (3, true, []), (4, true, []), (5, true, []), (6, false, [0, 1, 2, 3]), (7, false, [])] (by kernel_rfl) ?_ | refine J_draw (id := 10) [(0, true, []), (1, true, []), (2, true, []), (3, true, []), (4, true, []), (5, true, []), (6, true, []), (7, true, []), (8, false, [])] (by kernel_rfl) ?_ | refine J_draw (id := 15) [(0, true, []), (1, true, []), (2, true, []), (3, true, []), (4, true, []), (6, true, []), (5, false, [0, 1, 2, 3, 6]), (7, false, [0, 1, 2, 3]), (8, false, []), (9, true, [])] (by kernel_rfl) ?_ | refine JS_cons rfl rfl (RO_move rfl) ?_ | refine JS_cons rfl rfl (RO_nilCheck rfl) ?_ | refine JS_cons rfl rfl (RO_fieldAddr0 rfl) ?_ | refine JS_cons rfl rfl (RO_load rfl (by rfl)) ?_ | refine JS_off rfl ?_ | refine JS_cons rfl rfl (RO_extract rfl rfl) ?_ | refine JS_cons rfl rfl (RO_fieldAddr rfl) ?_ | refine JS_cons rfl rfl (RO_fe rfl) ?_ | refine JS_cons rfl rfl (RO_lde rfl (by omega) rfl) ?_ | refine JS_offu rfl ?_ | refine JS_cons rfl rfl (RO_lae rfl (by omega) (by repeat constructor)) ?_ | refine JS_cons rfl rfl (RO_loadAgg rfl (by repeat constructor)) ?_ | fail)
  · rw [show actOf W D a = W.reset D from if_pos (by assumption)]
    refine rt ?_
    exact ⟨_, ⟨_, _, rfl, rfl⟩, _, by repeat constructor⟩
  · rw [show actOf W D a = W.save D (hardOf a) (entriesOf a) from if_neg (by assumption)]
    refine rt ?_
    exact ⟨_, ⟨_, _, rfl, rfl⟩, _, by repeat constructor⟩
theorem rput_tr (v : Value) (L : List Ent) (e : Ent) (hl : L.length ≤ 1000000) (hr : Rise L) (he : e.In) (h0 : 0 < e.index) : Tr Tryz.prog 52 [v, entV e] [sl 70 entE v L]
    fun r Γ => Γ = [sl 70 entE v L, sl 70 entE r (putE L e)] := by
  refine Tr_of_J Tryz.func52 follows rfl Tryz.ntmps52 (by simp) fun B F => ?_
  repeat' (first | refine bsl (e := entE) (X := [e]) (fun v2 => ?_) (.cona rfl rfl .nil) | refine bsl (e := entE) (X := []) (fun v2 => ?_) .nil | refine mv ?_ | refine asn ?_ | refine jn ?_ | refine nl ?_ | refine ld rfl ?_ | refine f0 ?_ | refine sq ?_ | refine rg ?_ | refine lnb ?_ | refine lls rfl ?_ | refine ad ?_ | refine sb ?_ | refine lss ?_ | refine eql ?_ | refine gtr ?_ | refine p1 ?_ | refine p0 ?_ | refine sk2 ?_ | refine kp ?_ | refine ct ?_ | refine cf ?_ | (refine cd (fun hc => ?_) (fun hc => ?_) <;> try (exfalso; omega)) | (refine cn (fun hc => ?_) (fun hc => ?_) <;> try (exfalso; omega)) | refine bl ?_ | refine ib ?_ | refine xt ?_ | refine bx (fun b_ => ?_) | refine la rfl ?_ | refine ixa rfl rfl ?_ | refine fe ?_ | refine lde rfl ?_ | refine lae rfl ?_ | refine fa ?_ | refine cc ?_ | refine slb ?_ | refine slbl ?_ | refine slbh ?_ | refine af_ ?_ | (refine gd (fun hc => ?_) (fun hc => ?_) <;> try (exfalso; omega)) | (refine gn (fun hc => ?_) (fun hc => ?_) <;> try (exfalso; omega)) | refine aw ?_ | refine sw ?_ | refine sli rfl ?_ | refine slil rfl ?_ | refine slih rfl ?_ | refine cb (fun hc => ?_) (fun hc => ?_) | refine gs (fun hc => ?_) (fun hc => ?_) | refine J_draw (id := 1) [(0, true, []), (1, true, []), (2, true, []), (3, true, []), (4, true, []), (5, true, []), (6, true, []), (7, true, []), (8, true, []), (9, true, []), (10, true, []), (11, true, []), (12, true, []), (13, true, []), (14, true, []), (15, true, []), (16, true, []), (17, true, []), (18, true, []), (19, true, []), (20, true, []), (21, true, []), (22, true, []), (23, true, []), (24, true, [])] (by kernel_rfl) ?_ | refine J_draw3 (id := 3) [(1, true, []), (2, true, []), (3, true, []), (4, true, []), (5, true, []), (6, true, []), (7, true, []), (8, true, []), (9, true, []), (11, true, []), (0, false, [1, 2, 3, 4, 5, 6, 7, 8, 9, 11]), (10, false, [11]), (12, false, [1, 2, 3, 4, 5, 6, 7, 8, 9]), (13, false, []), (14, true, [])] [(1, true, []), (2, true, []), (3, true, []), (4, true, []), (5, true, []), (6, true, []), (7, true, []), (8, true, []), (9, true, []), (11, true, []), (0, false, [1, 2, 3, 4, 5, 6, 7, 8, 9, 11]), (12, false, [1, 2, 3, 4, 5, 6, 7, 8, 9]), (10, false, [11]), (13, false, []), (14, true, [])] [(1, true, []), (2, true, []), (3, true, []), (4, true, []), (5, true, []), (6, true, []), (7, true, []), (8, true, []), (9, true, []), (11, true, []), (12, false, [1, 2, 3, 4, 5, 6, 7, 8, 9]), (0, false, [1, 2, 3, 4, 5, 6, 7, 8, 9, 11]), (10, false, [11]), (13, false, []), (14, true, [])] (by kernel_rfl) ?_ ?_ ?_ | refine JS_cons rfl rfl (RO_move rfl) ?_ | refine JS_cons rfl rfl (RO_fieldAddr0 rfl) ?_ | refine JS_cons rfl rfl (RO_load rfl (by rfl)) ?_ | refine JS_off rfl ?_ | refine JS_cons rfl rfl (RO_fieldAddr rfl) ?_ | refine JS_cons rfl rfl (RO_lnb rfl) ?_ | refine JS_cons rfl rfl (RO_lls rfl) ?_ | refine JS_cons rfl rfl (RO_add_in rfl rfl (by omega)) ?_ | refine JS_cons rfl rfl (RO_sub_in rfl rfl (by omega)) ?_ | refine JS_cons rfl rfl (RO_ixa rfl rfl (by omega)) ?_ | refine JS_cons rfl rfl (RO_fe rfl) ?_ | refine JS_cons rfl rfl (RO_lde rfl (by omega) rfl) ?_ | refine JS_cons rfl rfl (RO_slih rfl rfl (by omega)) ?_ | refine JS_cons rfl rfl (RO_slil rfl rfl (by omega)) ?_ | refine JS_offu rfl ?_ | refine JS_cons rfl rfl (RO_cc rfl rfl (by omega)) ?_ | refine JS_cons rfl rfl (RO_lae rfl (by omega) (by repeat constructor)) ?_ | refine JS_cons rfl rfl (RO_loadAgg rfl (by repeat constructor)) ?_ | fail)
  · rw [show putE L e = [e] by simp_all [putE]]
    refine rt ?_
    exact ⟨_, rfl, _, by repeat constructor⟩
  · rw [show putE L e = [e] from if_pos (.inr (.inl ‹_›))]
    refine rt ?_
    exact ⟨_, rfl, _, by repeat constructor⟩
  · rw [show putE L e = [e] from if_pos (.inr (.inr ‹_›))]
    refine rt ?_
    exact ⟨_, rfl, _, by repeat constructor⟩
  all_goals
    have h3 : ¬ e.index < (headE L).index := ‹_›
    have h1 : ¬ (L.length : Int) = 0 := ‹_›
    have hw1 : ¬ IntKind.i64.wrap ((lastE L).index + 1) < e.index := ‹_›
    have hput : putE L e = L.take (e.index - (headE L).index).toNat ++ [e] := if_neg (by rintro (h | h | h) <;> omega)
    obtain ⟨hge, hle⟩ : 0 ≤ e.index - (headE L).index ∧ e.index - (headE L).index ≤ L.length := by
      rcases putE_cases L e hr he h0 with h | ⟨_, a, b, _⟩
      · rw [hput] at h
        refine ⟨by omega, ?_⟩
        have h4 := congrArg List.length h
        rw [List.length_append, List.length_take] at h4
        simp only [List.length_cons, List.length_nil] at h4
        omega
      · exact ⟨a, b⟩
    have hw : IntKind.i64.wrap (e.index - (headE L).index) = e.index - (headE L).index := wrap_in (by omega) (by omega)
    have hw2 : IntKind.i64.wrap (e.index - (L.getD (Int.toNat 0) entE.dflt).index) = e.index - (headE L).index := hw
    rw [hput]
    try rw [hw2]
    generalize hk : e.index - (headE L).index = kk at hle hge hw2 ⊢
    repeat' (first | refine slih rfl ?_ | refine bsl (e := entE) (X := [e]) (fun v2 => ?_) (.cona rfl rfl .nil) | refine bsl (e := entE) (X := []) (fun v2 => ?_) .nil | refine JS_cons rfl rfl (RO_sub_eq rfl rfl hw2) ?_ | refine apv rfl rfl (a := 0) (b := kk.toNat) (by omega) (by omega) (fun v3 => ?_) (by simp; omega) (by simp; omega) | refine apo rfl rfl (fun v6 => ?_) (by simp; omega) (by simp; omega) | refine mv ?_ | refine asn ?_ | refine jn ?_ | refine nl ?_ | refine ld rfl ?_ | refine f0 ?_ | refine sq ?_ | refine rg ?_ | refine lnb ?_ | refine lls rfl ?_ | refine ad ?_ | refine sb ?_ | refine lss ?_ | refine eql ?_ | refine gtr ?_ | refine p1 ?_ | refine p0 ?_ | refine sk2 ?_ | refine kp ?_ | refine ct ?_ | refine cf ?_ | (refine cd (fun hc => ?_) (fun hc => ?_) <;> try (exfalso; omega)) | (refine cn (fun hc => ?_) (fun hc => ?_) <;> try (exfalso; omega)) | refine bl ?_ | refine ib ?_ | refine xt ?_ | refine bx (fun b_ => ?_) | refine la rfl ?_ | refine ixa rfl rfl ?_ | refine fe ?_ | refine lde rfl ?_ | refine lae rfl ?_ | refine fa ?_ | refine cc ?_ | refine slb ?_ | refine slbl ?_ | refine slbh ?_ | refine af_ ?_ | (refine gd (fun hc => ?_) (fun hc => ?_) <;> try (exfalso; omega)) | (refine gn (fun hc => ?_) (fun hc => ?_) <;> try (exfalso; omega)) | refine aw ?_ | refine sw ?_ | refine sli rfl ?_ | refine slil rfl ?_ | refine slih rfl ?_ | refine cb (fun hc => ?_) (fun hc => ?_) | refine gs (fun hc => ?_) (fun hc => ?_) | refine J_draw (id := 1) [(0, true, []), (1, true, []), (2, true, []), (3, true, []), (4, true, []), (5, true, []), (6, true, []), (7, true, []), (8, true, []), (9, true, []), (10, true, []), (11, true, []), (12, true, []), (13, true, []), (14, true, []), (15, true, []), (16, true, []), (17, true, []), (18, true, []), (19, true, []), (20, true, []), (21, true, []), (22, true, []), (23, true, []), (24, true, [])] (by kernel_rfl) ?_ | refine J_draw3 (id := 3) [(1, true, []), (2, true, []), (3, true, []), (4, true, []), (5, true, []), (6, true, []), (7, true, []), (8, true, []), (9, true, []), (11, true, []), (0, false, [1, 2, 3, 4, 5, 6, 7, 8, 9, 11]), (10, false, [11]), (12, false, [1, 2, 3, 4, 5, 6, 7, 8, 9]), (13, false, []), (14, true, [])] [(1, true, []), (2, true, []), (3, true, []), (4, true, []), (5, true, []), (6, true, []), (7, true, []), (8, true, []), (9, true, []), (11, true, []), (0, false, [1, 2, 3, 4, 5, 6, 7, 8, 9, 11]), (12, false, [1, 2, 3, 4, 5, 6, 7, 8, 9]), (10, false, [11]), (13, false, []), (14, true, [])] [(1, true, []), (2, true, []), (3, true, []), (4, true, []), (5, true, []), (6, true, []), (7, true, []), (8, true, []), (9, true, []), (11, true, []), (12, false, [1, 2, 3, 4, 5, 6, 7, 8, 9]), (0, false, [1, 2, 3, 4, 5, 6, 7, 8, 9, 11]), (10, false, [11]), (13, false, []), (14, true, [])] (by kernel_rfl) ?_ ?_ ?_ | refine JS_cons rfl rfl (RO_move rfl) ?_ | refine JS_cons rfl rfl (RO_fieldAddr0 rfl) ?_ | refine JS_cons rfl rfl (RO_load rfl (by rfl)) ?_ | refine JS_off rfl ?_ | refine JS_cons rfl rfl (RO_fieldAddr rfl) ?_ | refine JS_cons rfl rfl (RO_lnb rfl) ?_ | refine JS_cons rfl rfl (RO_lls rfl) ?_ | refine JS_cons rfl rfl (RO_add_in rfl rfl (by omega)) ?_ | refine JS_cons rfl rfl (RO_sub_in rfl rfl (by omega)) ?_ | refine JS_cons rfl rfl (RO_ixa rfl rfl (by omega)) ?_ | refine JS_cons rfl rfl (RO_fe rfl) ?_ | refine JS_cons rfl rfl (RO_lde rfl (by omega) rfl) ?_ | refine JS_cons rfl rfl (RO_slih rfl rfl (by omega)) ?_ | refine JS_cons rfl rfl (RO_slil rfl rfl (by omega)) ?_ | refine JS_offu rfl ?_ | refine JS_cons rfl rfl (RO_cc rfl rfl (by omega)) ?_ | refine JS_cons rfl rfl (RO_lae rfl (by omega) (by repeat constructor)) ?_ | refine JS_cons rfl rfl (RO_loadAgg rfl (by repeat constructor)) ?_ | fail)
  all_goals
    rw [List.nil_append, List.drop_zero]
    refine rt ?_
    exact ⟨_, rfl, _, by repeat constructor⟩
theorem begun_tr (v0 v1 v2 : Value) (X E N : List Ent) (h0 : X.length ≤ 1000) (h1 : E.length ≤ 1000) (h2 : N.length ≤ 10) (hr : Rise E) (hN : ∀ e ∈ N, e.In ∧ 0 < e.index) (k : Nat) (hk : k ≤ N.length) (hX : X = (N.take k).foldl putE E) :
    Tr Tryz.prog 27 [v0, v1, v2] [sl 70 entE v0 X, sl 70 entE v1 E, sl 70 entE v2 N] fun r Γ => r = .bool true ∧ Γ = [] := by
  refine Tr_of_J Tryz.func27 follows rfl Tryz.ntmps27 (by simp) fun B F => ?_
  repeat' (first | refine mv ?_ | refine asn ?_ | refine jn ?_ | refine nl ?_ | refine ld rfl ?_ | refine sq ?_ | refine rg ?_ | refine lnb ?_ | refine lls rfl ?_ | refine ad ?_ | refine lss ?_ | refine leq ?_ | refine kp ?_ | refine ct ?_ | refine cf ?_ | (refine cd (fun hc => ?_) (fun hc => ?_) <;> try (exfalso; omega)) | (refine cn (fun hc => ?_) (fun hc => ?_) <;> try (exfalso; omega)) | refine bl ?_ | refine ib ?_ | refine xt ?_ | refine la rfl ?_ | refine ixa rfl rfl ?_ | refine lde rfl ?_ | refine lae rfl ?_ | refine cc ?_ | refine af_ ?_ | refine aw ?_ | refine cb (fun hc => ?_) (fun hc => ?_) | fail)
  refine lp (α := Nat × Value) (fun y => [(0, v0), (1, y.2), (2, v2), (7, .int .i64 y.1)]) (fun y => [sl 70 entE v0 X, sl 70 entE y.2 ((N.take y.1).foldl putE E), sl 70 entE v2 N]) (fun y => y.1 ≤ k ∧ Rise ((N.take y.1).foldl putE E) ∧ ((N.take y.1).foldl putE E).length ≤ 1000 + y.1) (fun y => N.length - y.1) (0, v1) ?_ ⟨Nat.zero_le _, hr, h1⟩
  rintro ⟨i, v⟩ ⟨hi, hri, hli⟩ again
  dsimp only at hi hri hli again ⊢
  obtain ⟨Ei, hEi⟩ : ∃ Ei, Ei = (N.take i).foldl putE E := ⟨_, rfl⟩
  rw [← hEi] at hri hli ⊢
  have hg : i < N.length → (N.getD i .none).In ∧ 0 < (N.getD i .none).index := fun h => by rw [getD_of h]; exact hN _ (List.getElem_mem h)
  have hnx : i < N.length → (N.take (i + 1)).foldl putE E = putE Ei (N.getD i .none) := fun h => by
    rw [List.take_succ_eq_append_getElem h, List.foldl_append, ← hEi, getD_of h]; rfl
  repeat' (first | (refine cle rfl (sameEntries_tr v0 v X Ei (by omega) (by omega)) ?_; rintro r Γ' ⟨rfl, rfl⟩; refine n2 ?_) | (refine cle rfl (rput_tr v Ei (N.getD i .none) (by omega) hri (hg (by omega)).1 (hg (by omega)).2) ?_; rintro v5 Γ' rfl; refine n2 ?_) | refine mv ?_ | refine asn ?_ | refine jn ?_ | refine nl ?_ | refine ld rfl ?_ | refine sq ?_ | refine rg ?_ | refine lnb ?_ | refine lls rfl ?_ | refine ad ?_ | refine lss ?_ | refine leq ?_ | refine kp ?_ | refine ct ?_ | refine cf ?_ | (refine cd (fun hc => ?_) (fun hc => ?_) <;> try (exfalso; omega)) | (refine cn (fun hc => ?_) (fun hc => ?_) <;> try (exfalso; omega)) | refine bl ?_ | refine ib ?_ | refine xt ?_ | refine la rfl ?_ | refine ixa rfl rfl ?_ | refine lde rfl ?_ | refine lae rfl ?_ | refine cc ?_ | refine af_ ?_ | refine aw ?_ | refine cb (fun hc => ?_) (fun hc => ?_) | fail)
  · refine rt ?_
    exact ⟨_, ⟨rfl, rfl⟩, _, by repeat constructor⟩
  · have hno : ¬ X = Ei := by assumption
    have hik : i ≠ k := by
      rintro rfl
      exact hno (hX.trans hEi.symm)
    have hiN : i < N.length := by omega
    rw [← hnx hiN]
    refine ag (again (i + 1, v5) ⟨by dsimp only; omega, ?_, ?_⟩ (by dsimp only; omega))
    · dsimp only
      rw [hnx hiN]
      exact putE_rise hri (hg hiN).1 (hg hiN).2
    · dsimp only
      rw [hnx hiN]
      have := putE_len Ei (N.getD i .none)
      omega
  · have hno : ¬ X = Ei := by assumption
    have hik : i = k := by omega
    subst hik
    exact absurd (hX.trans hEi.symm) hno
end Go.Proofs.YtaeefjcbmkiiaaaGreatDoor
/- Cuts: plain. -/
namespace Go.Proofs.YtaeefjcbmkiiaaaGreatDoor
open Go Sl
set_option linter.unusedVariables false
set_option linter.unusedSimpArgs false
set_option maxHeartbeats 1000000
/-- Segments that nobody needs, deleted one by one: the error, the segments, the disk. -/
def cutGo (idx : Int) : List Seg → DiskS → Int × List Seg × DiskS
  | [], D => (0, [], D)
  | s :: l, D => if l ≠ [] ∧ 0 < (lastS (s :: l)).size ∧ s.top ≤ idx then (if (D.delete (segFile s)).1 ≠ 0 then ((D.delete (segFile s)).1, s :: l, (D.delete (segFile s)).2) else cutGo idx l (D.delete (segFile s)).2) else (0, s :: l, D)
def cutS (S : List Seg) (D : DiskS) (idx : Int) : Int × List Seg × DiskS := if D.dead = true then (7, S, D) else cutGo idx S D
theorem cutGo_stop {idx : Int} {s : Seg} {l : List Seg} {D : DiskS} (h : ¬ (l ≠ [] ∧ 0 < (lastS (s :: l)).size ∧ s.top ≤ idx)) : cutGo idx (s :: l) D = (0, s :: l, D) := by rw [cutGo, if_neg h]
theorem cutGo_err {idx : Int} {s : Seg} {l : List Seg} {D : DiskS} (h : l ≠ [] ∧ 0 < (lastS (s :: l)).size ∧ s.top ≤ idx) (he : (D.delete (segFile s)).1 ≠ 0) : cutGo idx (s :: l) D = ((D.delete (segFile s)).1, s :: l, (D.delete (segFile s)).2) := by rw [cutGo, if_pos h, if_pos he]
theorem cutGo_on {idx : Int} {s : Seg} {l : List Seg} {D : DiskS} (h : l ≠ [] ∧ 0 < (lastS (s :: l)).size ∧ s.top ≤ idx) (he : (D.delete (segFile s)).1 = 0) : cutGo idx (s :: l) D = cutGo idx l (D.delete (segFile s)).2 := by rw [cutGo, if_pos h, if_neg (by rw [he]; simp)]
end Go.Proofs.YtaeefjcbmkiiaaaGreatDoor
/- Behind a cut: what is read, against what was: plain. -/
namespace Go.Proofs.YtaeefjcbmkiiaaaGreatDoor
open Go Sl
set_option linter.unusedVariables false
set_option linter.unusedSimpArgs false
set_option maxHeartbeats 1000000
/-- The second list is an end of the first; what stands ahead is not above k. -/
def Suf (k : Int) (X Y : List Ent) : Prop := ∃ X0, X = X0 ++ Y ∧ ∀ x ∈ X0, x.index ≤ k
theorem lastE_app {X0 Y : List Ent} (h : Y ≠ []) : lastE (X0 ++ Y) = lastE Y := by
  have h1 := List.length_pos_iff.2 h
  unfold lastE
  rw [List.getD_eq_getElem?_getD, List.getD_eq_getElem?_getD, List.length_append]
  rw [show (((X0.length + Y.length : Nat) : Int) - 1).toNat = X0.length + (Y.length - 1) by omega, show (((Y.length : Nat) : Int) - 1).toNat = Y.length - 1 by omega]
  rw [List.getElem?_append_right (by omega), Nat.add_sub_cancel_left]
theorem headE_app {X0 Y : List Ent} (hX : Rise (X0 ++ Y)) (h : Y ≠ []) : (headE Y).index = (headE (X0 ++ Y)).index + X0.length := by
  have h1 := List.length_pos_iff.2 h
  have := hX.up X0.length (by rw [List.length_append]; omega)
  rw [List.getD_eq_getElem?_getD, List.getElem?_append_right (Nat.le_refl _), Nat.sub_self, ← List.getD_eq_getElem?_getD] at this
  exact this
theorem suf_put {k : Int} {X Y : List Ent} {e : Ent} (hX : Rise X) (he : e.In) (h0 : 0 < e.index) (h : Suf k X Y) : Suf k (putE X e) (putE Y e) := by
  obtain ⟨X0, rfl, hk⟩ := h
  by_cases hY : Y = []
  · subst hY
    rw [List.append_nil] at hX ⊢
    have e1 : putE [] e = [e] := by simp [putE]
    rw [e1]
    rcases putE_cases X0 e hX he h0 with h | ⟨_, _, _, h⟩
    · rw [h]; exact ⟨[], rfl, fun x hx => by cases hx⟩
    · rw [h]; exact ⟨_, rfl, fun x hx => hk x (List.mem_of_mem_take hx)⟩
  · have hYl := List.length_pos_iff.2 hY
    have hl := lastE_app (X0 := X0) hY
    have hh := headE_app hX hY
    have hXl : ¬ (((X0 ++ Y).length : Int) = 0) := by rw [List.length_append]; omega
    have hYl' : ¬ ((Y.length : Int) = 0) := by omega
    by_cases c1 : IntKind.i64.wrap ((lastE Y).index + 1) < e.index
    · have a1 : putE (X0 ++ Y) e = [e] := if_pos (.inr (.inl (by rw [hl]; exact c1)))
      have a2 : putE Y e = [e] := if_pos (.inr (.inl c1))
      rw [a1, a2]; exact ⟨[], rfl, fun x hx => by cases hx⟩
    by_cases c2 : e.index < (headE (X0 ++ Y)).index
    · have a1 : putE (X0 ++ Y) e = [e] := if_pos (.inr (.inr c2))
      have a2 : putE Y e = [e] := if_pos (.inr (.inr (by omega)))
      rw [a1, a2]; exact ⟨[], rfl, fun x hx => by cases hx⟩
    have a1 : putE (X0 ++ Y) e = (X0 ++ Y).take (e.index - (headE (X0 ++ Y)).index).toNat ++ [e] := if_neg (by rintro (h | h | h); exact hXl h; rw [hl] at h; exact c1 h; exact c2 h)
    rw [a1]
    by_cases c3 : e.index < (headE Y).index
    · have a2 : putE Y e = [e] := if_pos (.inr (.inr c3))
      rw [a2]
      refine ⟨_, rfl, fun x hx => hk x ?_⟩
      rw [List.take_append_of_le_length (by omega)] at hx
      exact List.mem_of_mem_take hx
    · have a2 : putE Y e = Y.take (e.index - (headE Y).index).toNat ++ [e] := if_neg (by rintro (h | h | h); exact hYl' h; exact c1 h; exact c3 h)
      rw [a2]
      refine ⟨X0, ?_, hk⟩
      rw [← List.append_assoc]
      congr 1
      rw [List.take_append, List.take_of_length_le (by omega)]
      congr 2
      omega
theorem app_rise {x : Hrd × List Ent} {r : Rec} (hr : r.Good) (h : Rise x.2) : Rise (Rec.app x r).2 := by
  cases r with
  | hard _ => exact h
  | ent e =>
    have hp : 0 < e.index := by
      have := hr.2.1
      simp only [Ent.right, Bool.and_eq_true, decide_eq_true_eq] at this
      exact this.1.1.1
    exact putE_rise h hr.1 hp
  | reset => exact ⟨fun i hi => by simp [Rec.app] at hi, fun e he => (by cases he), fun e he => (by cases he)⟩
theorem fold_rise : ∀ (l : List Rec) (x : Hrd × List Ent), (∀ r ∈ l, r.Good) → Rise x.2 → Rise (l.foldl Rec.app x).2
  | [], x, _, h => h
  | r :: l, x, hg, h => fold_rise l _ (fun q hq => hg q (List.mem_cons_of_mem _ hq)) (app_rise (hg r (List.mem_cons_self ..)) h)
theorem suf_fold {k : Int} : ∀ (l : List Rec) (x y : Hrd × List Ent), (∀ r ∈ l, r.Good) → Rise x.2 → Suf k x.2 y.2 → Suf k (l.foldl Rec.app x).2 (l.foldl Rec.app y).2 ∧ (x.1 = y.1 → (l.foldl Rec.app x).1 = (l.foldl Rec.app y).1)
  | [], x, y, _, _, h => ⟨h, fun e => e⟩
  | r :: l, x, y, hg, hX, h => by
    have hr := hg r (List.mem_cons_self ..)
    have h1 : Suf k (Rec.app x r).2 (Rec.app y r).2 := by
      cases r with
      | hard _ => exact h
      | ent e =>
        have hp : 0 < e.index := by
          have := hr.2.1
          simp only [Ent.right, Bool.and_eq_true, decide_eq_true_eq] at this
          exact this.1.1.1
        exact suf_put hX hr.1 hp h
      | reset => exact ⟨[], rfl, fun x hx => by cases hx⟩
    obtain ⟨i1, i2⟩ := suf_fold l (Rec.app x r) (Rec.app y r) (fun q hq => hg q (List.mem_cons_of_mem _ hq)) (app_rise hr hX) h1
    refine ⟨i1, fun e => i2 ?_⟩
    cases r with
    | hard _ => rfl
    | ent _ => exact e
    | reset => exact e
theorem topR_mono : ∀ (l : List Rec) (t : Int), t ≤ l.foldl topR t
  | [], t => Int.le_refl _
  | r :: l, t => by
    have h1 := topR_mono l (topR t r)
    have h2 : t ≤ topR t r := by cases r <;> simp [topR] <;> omega
    rw [List.foldl_cons]; omega
theorem fold_top {k : Int} : ∀ (l : List Rec) (t : Int) (x : Hrd × List Ent), l.foldl topR t ≤ k → (∀ e ∈ x.2, e.index ≤ k) → ∀ e ∈ (l.foldl Rec.app x).2, e.index ≤ k
  | [], t, x, _, h => h
  | r :: l, t, x, ht, h => by
    rw [List.foldl_cons] at ht ⊢
    refine fold_top l (topR t r) _ ht ?_
    have h1 := topR_mono l (topR t r)
    cases r with
    | hard _ => exact h
    | ent e =>
      intro a ha
      rcases putE_mem ha with rfl | ha
      · have : a.index ≤ topR t (.ent a) := by simp [topR]; omega
        omega
      · exact h a ha
    | reset => intro a ha; cases ha
theorem folds_top {k : Int} : ∀ (G : GL) (x : Hrd × List Ent), (∀ g ∈ G, topOf g.2 ≤ k) → (∀ e ∈ x.2, e.index ≤ k) → ∀ e ∈ ((G.flatMap (·.2)).foldl Rec.app x).2, e.index ≤ k
  | [], x, _, h => h
  | g :: G, x, hg, h => by
    rw [List.flatMap_cons, List.foldl_append]
    exact folds_top G _ (fun q hq => hg q (List.mem_cons_of_mem _ hq)) (fold_top g.2 0 x (hg g (List.mem_cons_self ..)) h)
theorem rise_nil : Rise ([] : List Ent) := ⟨fun i hi => by simp at hi, fun e he => (by cases he), fun e he => (by cases he)⟩
/-- What is read behind a cut. -/
theorem fold_cut {k : Int} {G1 G2 : GL} (hg : ∀ g ∈ G1 ++ G2, ∀ r ∈ g.2, r.Good) (h1 : ∀ g ∈ G1, topOf g.2 ≤ k) (h2 : G2 ≠ []) (hh : ∀ g ∈ G2, ∃ h t, g.2 = .hard h :: t) : (foldOf (G1 ++ G2)).1 = (foldOf G2).1 ∧ Suf k (foldOf (G1 ++ G2)).2 (foldOf G2).2 := by
  obtain ⟨g, G, rfl⟩ := List.exists_cons_of_ne_nil h2
  obtain ⟨h, t, ht⟩ := hh g (List.mem_cons_self ..)
  have hgood : ∀ r ∈ (g :: G).flatMap (·.2), r.Good := fun r hr => by
    obtain ⟨q, hq, hr⟩ := List.mem_flatMap.1 hr
    exact hg q (List.mem_append_right _ hq) r hr
  have hgood1 : ∀ r ∈ G1.flatMap (·.2), r.Good := fun r hr => by
    obtain ⟨q, hq, hr⟩ := List.mem_flatMap.1 hr
    exact hg q (List.mem_append_left _ hq) r hr
  have hX : Rise (foldOf G1).2 := fold_rise _ _ hgood1 rise_nil
  have hk : ∀ e ∈ (foldOf G1).2, e.index ≤ k := folds_top G1 _ h1 fun e he => by cases he
  have e1 : foldOf (G1 ++ g :: G) = ((g :: G).flatMap (·.2)).foldl Rec.app (foldOf G1) := by unfold foldOf; rw [List.flatMap_append, List.foldl_append]
  rw [e1]
  unfold foldOf
  have hsuf : Suf k (foldOf G1).2 [] := ⟨(foldOf G1).2, by simp, hk⟩
  refine ⟨?_, (suf_fold _ _ _ hgood hX hsuf).1⟩
  rw [List.flatMap_cons, ht, List.cons_append, List.foldl_cons, List.foldl_cons]
  refine (suf_fold (k := k) (t ++ G.flatMap (·.2)) (Rec.app (foldOf G1) (.hard h)) (Rec.app (⟨0, 0⟩, []) (.hard h)) (fun r hr => hgood r ?_) hX hsuf).2 rfl
  rw [List.flatMap_cons, ht, List.cons_append]
  exact List.mem_cons_of_mem _ hr
theorem delete_live {D : DiskS} (h1 : D.dead = false) (h2 : D.fuse = -1) {n : Nm} {f : FileS} (ha : assoc D.files n = some f) : D.delete n = (0, { D with files := adel D.files n }) := by
  unfold DiskS.delete DiskS.does
  have : D.find n = (f, 0) := by unfold DiskS.find; rw [if_neg (by rw [h1]; simp), ha]
  rw [this, turn_live h2]
  simp
theorem adel_map {κ α β : Type} [DecidableEq κ] (f : α → β) (l : List (κ × α)) (k : κ) : (adel l k).map (fun p => (p.1, f p.2)) = adel (l.map fun p => (p.1, f p.2)) k := by
  induction l with
  | nil => rfl
  | cons p l ih =>
    obtain ⟨q, y⟩ := p
    rw [adel, List.map_cons, adel]
    split
    · rfl
    · rw [List.map_cons, ih]
/-- A cut of a log whose power stays. -/
theorem cut_lays {idx : Int} : ∀ (G : GL) (D : DiskS), Lays (G.map (·.1)) D G → D.dead = false → D.fuse = -1 → D.Ok → G ≠ [] →
    ∃ G1 G2 D', G = G1 ++ G2 ∧ G2 ≠ [] ∧ cutGo idx (G.map (·.1)) D = (0, G2.map (·.1), D') ∧ Lays (G2.map (·.1)) D' G2 ∧ (∀ g ∈ G1, topOf g.2 ≤ idx) ∧ D'.dead = false ∧ D'.Ok ∧ D'.most = D.most
  | [], D, _, _, _, _, h => absurd rfl h
  | g :: G, D, hL, hd, hf, hok, _ => by
    rw [List.map_cons]
    by_cases hc : G.map (·.1) ≠ [] ∧ 0 < (lastS (g.1 :: G.map (·.1))).size ∧ g.1.top ≤ idx
    · have hm : (segFile g.1, bytesOf g.2) ∈ cont D := by rw [hL.cont]; simp
      unfold cont at hm
      obtain ⟨p, hp, he⟩ := List.mem_map.1 hm
      simp only [Prod.mk.injEq] at he
      have ha := assoc_of_nodup hok.nd hp
      rw [he.1] at ha
      have hdel := delete_live hd hf ha
      have hok' := hok.delete (segFile g.1)
      rw [cutGo_on hc (by rw [hdel]), hdel]
      rw [hdel] at hok'
      have hL' : Lays (G.map (·.1)) { D with files := adel D.files (segFile g.1) } G := {
        segs := rfl
        cont := by
          have h1 := adel_map FileS.bytes D.files (segFile g.1)
          refine h1.trans ?_
          have h2 := hL.cont
          unfold cont at h2
          rw [h2, List.map_cons, adel, if_pos rfl]
        good := fun q hq => hL.good q (List.mem_cons_of_mem _ hq)
        head := fun q hq => hL.head q (List.mem_cons_of_mem _ hq)
        tops := fun q hq => hL.tops q (List.mem_cons_of_mem _ hq)
        size := fun q hq => hL.size q (List.mem_cons_of_mem _ hq)
        inc := by have := hL.inc; rw [List.map_cons, List.pairwise_cons] at this; exact this.2
        rng := fun q hq => hL.rng q (List.mem_cons_of_mem _ hq) }
      obtain ⟨G1, G2, D', i1, i2, i3, i4, i5, i6, i7, i8⟩ := cut_lays G _ hL' hd hf hok' (by intro h; exact hc.1 (by rw [h]; rfl))
      refine ⟨g :: G1, G2, D', by rw [i1]; rfl, i2, i3, i4, fun q hq => ?_, i6, i7, i8⟩
      rcases List.mem_cons.1 hq with rfl | hq
      · rw [← hL.tops q (List.mem_cons_self ..)]; exact hc.2.2
      · exact i5 q hq
    · exact ⟨[], g :: G, D, rfl, by simp, cutGo_stop hc, hL, fun q hq => (by cases hq), hd, hok, rfl⟩
end Go.Proofs.YtaeefjcbmkiiaaaGreatDoor
/- A disk whose power may go, against the same disk whose power stays: what is laid down, saved, forgotten: plain. -/
namespace Go.Proofs.YtaeefjcbmkiiaaaGreatDoor
open Go Sl
set_option linter.unusedVariables false
set_option linter.unusedSimpArgs false
set_option maxHeartbeats 1000000
/-- The same disk, whose power stays. -/
def DiskS.unf (D : DiskS) : DiskS := { D with fuse := -1 }
theorem turn_zero {D : DiskS} (h : D.fuse = 0) : D.turn = (7, { D with dead := true }) := by
  obtain ⟨a, b, c, d⟩ := D
  dsimp only at h
  subst h
  rfl
theorem turn_on {D : DiskS} (h : D.fuse ≠ 0) : D.turn = (0, { D with fuse := max (D.fuse - 1) (-1) }) := by
  unfold DiskS.turn
  rw [if_neg h, if_neg h, if_neg h]
theorem assoc_aput {κ α : Type} [DecidableEq κ] (l : List (κ × α)) (k : κ) (x : α) : assoc (aput l k x) k = some x := by
  induction l with
  | nil => simp [aput, assoc]
  | cons p l ih =>
    obtain ⟨k', y⟩ := p
    unfold aput
    by_cases h : k = k'
    · rw [if_pos h]; subst h; unfold assoc; rw [if_pos rfl]
    · rw [if_neg h]; unfold assoc; rw [if_neg h]; exact ih
theorem aput_aput {κ α : Type} [DecidableEq κ] (l : List (κ × α)) (k : κ) (x y : α) : aput (aput l k x) k y = aput l k y := by
  induction l with
  | nil => simp [aput]
  | cons p l ih =>
    obtain ⟨k', z⟩ := p
    by_cases h : k = k'
    · subst h; simp [aput]
    · simp [aput, h, ih]
theorem append_fuse {D : DiskS} (hd : D.dead = false) (n : Nm) (data : List UInt8) :
    ((D.unf.append n data).1 ≠ 0 ∧ (D.unf.append n data).1 ≠ 7 ∧ D.append n data = ((D.unf.append n data).1, D) ∧ (D.unf.append n data).2 = D.unf) ∨
    (D.unf.append n data = (0, { D.unf with files := aput D.files n ⟨(D.find n).1.bytes ++ data, (D.find n).1.synced⟩ }) ∧ D.append n data = if D.fuse = 0 then (7, { D with dead := true }) else (0, { D with files := aput D.files n ⟨(D.find n).1.bytes ++ data, (D.find n).1.synced⟩, fuse := max (D.fuse - 1) (-1) })) := by
  have hf : D.unf.find n = D.find n := rfl
  have h7 : ¬ (D.find n).2 = 7 := by
    unfold DiskS.find
    rw [if_neg (by rw [hd]; simp)]
    split <;> simp
  have ht : D.unf.turn = (0, D.unf) := turn_live rfl
  unfold DiskS.append
  rw [hf, if_neg h7, if_neg h7]
  by_cases h3 : okName n = false
  · rw [if_pos h3, if_pos h3]; exact .inl ⟨by simp, by simp, rfl, rfl⟩
  rw [if_neg h3, if_neg h3]
  by_cases h11 : (D.find n).2 = 4 ∧ (D.files.length : Int) = 40
  · rw [if_pos (show (D.find n).2 = 4 ∧ (D.unf.files.length : Int) = 40 from h11), if_pos h11]; exact .inl ⟨by simp, by simp, rfl, rfl⟩
  rw [if_neg (show ¬ ((D.find n).2 = 4 ∧ (D.unf.files.length : Int) = 40) from h11), if_neg h11]
  by_cases h6 : D.most < (DiskS.total D.files : Int) + data.length
  · rw [if_pos (show D.unf.most < (DiskS.total D.unf.files : Int) + data.length from h6), if_pos h6]; exact .inl ⟨by simp, by simp, rfl, rfl⟩
  rw [if_neg (show ¬ D.unf.most < (DiskS.total D.unf.files : Int) + data.length from h6), if_neg h6, ht]
  right
  refine ⟨rfl, ?_⟩
  by_cases h0 : D.fuse = 0
  · rw [turn_zero h0, if_pos (by simp), if_pos h0]
  · rw [turn_on h0, if_neg (by simp), if_neg h0]
theorem sync_fuse {D : DiskS} {n : Nm} {f : FileS} (hf : D.find n = (f, 0)) :
    D.unf.sync n = (0, { D.unf with files := aput D.files n ⟨f.bytes, f.bytes.length⟩ }) ∧ D.sync n = if D.fuse = 0 then (7, { D with dead := true }) else (0, { D with files := aput D.files n ⟨f.bytes, f.bytes.length⟩, fuse := max (D.fuse - 1) (-1) }) := by
  have hf' : D.unf.find n = (f, 0) := hf
  have ht : D.unf.turn = (0, D.unf) := turn_live rfl
  unfold DiskS.sync DiskS.does
  rw [hf', hf, ht]
  refine ⟨by simp [DiskS.unf], ?_⟩
  by_cases h0 : D.fuse = 0
  · rw [turn_zero h0, if_pos h0]; simp
  · rw [turn_on h0, if_neg h0]; simp
theorem find_of_assoc {E : DiskS} (hd : E.dead = false) {n : Nm} {f : FileS} (ha : assoc E.files n = some f) : E.find n = (f, 0) := by
  unfold DiskS.find; rw [if_neg (by rw [hd]; simp), ha]
/-- What is behind a write that the power's going stopped. -/
def Died (D E : DiskS) (n : Nm) (T : List UInt8) : Prop := E.dead = true ∧ E.most = D.most ∧ (E.files = D.files ∨ E.files = aput D.files n ⟨(D.find n).1.bytes ++ T, (D.find n).1.synced⟩)
/-- Records laid down, where the power may go. -/
theorem lay_fuse {D : DiskS} (hd : D.dead = false) (S : List Seg) (h : Hrd) (tell : Bool) (ps : List (List UInt8)) :
    (layE S D.unf h tell ps ≠ 0 ∧ layE S D h tell ps = layE S D.unf h tell ps ∧ layE S D h tell ps ≠ 7 ∧ layS S D h tell ps = layS S D.unf h tell ps ∧ layD S D h tell ps = D ∧ layD S D.unf h tell ps = D.unf) ∨
    (layE S D.unf h tell ps = 0 ∧ layE S D h tell ps = 7 ∧ Died D (layD S D h tell ps) (segFile (lastS S)) (layT S h tell ps)) ∨
    (layE S D.unf h tell ps = 0 ∧ layE S D h tell ps = 0 ∧ layS S D h tell ps = layS S D.unf h tell ps ∧ (layD S D h tell ps).unf = layD S D.unf h tell ps ∧ (layD S D h tell ps).dead = false ∧
      (layD S D h tell ps).files = aput D.files (segFile (lastS S)) ⟨(D.find (segFile (lastS S))).1.bytes ++ layT S h tell ps, ((D.find (segFile (lastS S))).1.bytes ++ layT S h tell ps).length⟩) := by
  generalize hn : segFile (lastS S) = n
  generalize hT : layT S h tell ps = T
  have a1 : layA S D.unf h tell ps = D.unf.append n T := by unfold layA; rw [hn, hT]
  have a2 : layA S D h tell ps = D.append n T := by unfold layA; rw [hn, hT]
  rcases append_fuse hd n T with ⟨b1, b2, b3, b4⟩ | ⟨b1, b2⟩
  · left
    have c1 : layE S D.unf h tell ps = (D.unf.append n T).1 := by unfold layE; rw [a1, if_pos b1]
    have c2 : layE S D h tell ps = (D.unf.append n T).1 := by unfold layE; rw [a2, b3, if_pos b1]
    refine ⟨by rw [c1]; exact b1, by rw [c1, c2], by rw [c2]; exact b2, ?_, ?_, ?_⟩
    · unfold layS; rw [a1, a2, b3, if_pos b1]
    · unfold layD; rw [a2, b3, if_pos b1]
    · unfold layD; rw [a1, if_pos b1, b4]
  · right
    obtain ⟨F, hF⟩ : ∃ F, F = aput D.files n ⟨(D.find n).1.bytes ++ T, (D.find n).1.synced⟩ := ⟨_, rfl⟩
    have hFa : assoc F n = some ⟨(D.find n).1.bytes ++ T, (D.find n).1.synced⟩ := by rw [hF, assoc_aput]
    rw [← hF] at b1 b2
    have s1 := (sync_fuse (D := { D.unf with files := F }) (n := n) (f := ⟨(D.find n).1.bytes ++ T, (D.find n).1.synced⟩) (find_of_assoc (E := { D.unf with files := F }) hd hFa)).1
    have e0 : layE S D.unf h tell ps = 0 := by
      unfold layE; rw [a1, b1, hn, if_neg (by simp)]; dsimp only; exact congrArg Prod.fst s1
    have d0 : layD S D.unf h tell ps = { D.unf with files := aput F n ⟨(D.find n).1.bytes ++ T, ((D.find n).1.bytes ++ T).length⟩ } := by
      unfold layD; rw [a1, b1, hn, if_neg (by simp)]; dsimp only; exact congrArg Prod.snd s1
    by_cases h0 : D.fuse = 0
    · rw [if_pos h0] at b2
      left
      refine ⟨e0, ?_, ?_⟩
      · unfold layE; rw [a2, b2, if_pos (by simp)]
      · unfold layD; rw [a2, b2, if_pos (by simp)]
        exact ⟨rfl, rfl, .inl rfl⟩
    · rw [if_neg h0] at b2
      have s2 := (sync_fuse (D := { D with files := F, fuse := max (D.fuse - 1) (-1) }) (n := n) (f := ⟨(D.find n).1.bytes ++ T, (D.find n).1.synced⟩) (find_of_assoc (E := { D with files := F, fuse := max (D.fuse - 1) (-1) }) hd hFa)).2
      by_cases h1 : max (D.fuse - 1) (-1) = 0
      · rw [if_pos h1] at s2
        left
        refine ⟨e0, ?_, ?_⟩
        · unfold layE; rw [a2, b2, hn, if_neg (by simp)]; dsimp only; exact congrArg Prod.fst s2
        · unfold layD; rw [a2, b2, hn, if_neg (by simp)]; dsimp only; rw [s2]
          exact ⟨rfl, rfl, .inr hF⟩
      · rw [if_neg h1] at s2
        right
        have dD : layD S D h tell ps = { D with files := aput F n ⟨(D.find n).1.bytes ++ T, ((D.find n).1.bytes ++ T).length⟩, fuse := max (max (D.fuse - 1) (-1) - 1) (-1) } := by
          unfold layD; rw [a2, b2, hn, if_neg (by simp)]; dsimp only; exact congrArg Prod.snd s2
        refine ⟨e0, ?_, ?_, ?_, ?_, ?_⟩
        · unfold layE; rw [a2, b2, hn, if_neg (by simp)]; dsimp only; exact congrArg Prod.fst s2
        · unfold layS; rw [a1, a2, b1, b2, if_neg (by simp)]
        · rw [dD, d0]; rfl
        · rw [dD]; exact hd
        · rw [dD, hF]; exact aput_aput _ _ _ _
/-- All that lies there is safe. -/
def Safe (F : List (Nm × FileS)) : Prop := ∀ p ∈ F, p.2.synced = p.2.bytes.length
theorem Safe.aput {F : List (Nm × FileS)} (h : Safe F) (n : Nm) (b : List UInt8) : Safe (aput F n ⟨b, b.length⟩) := fun p hp => by
  rcases aput_mem hp with rfl | hp
  · rfl
  · exact h p hp
/-- A save, where the power may go. -/
theorem save_fuse {W : LogS} {D : DiskS} (hd : D.dead = false) (hs : Safe D.files) (h : Hrd) (l : List Ent) :
    ((W.save D h l).1 = (W.save D.unf h l).1 ∧ (W.save D h l).1 ≠ 7 ∧ (W.save D h l).2.1 = (W.save D.unf h l).2.1 ∧ (W.save D h l).2.2.unf = (W.save D.unf h l).2.2 ∧ (W.save D h l).2.2.dead = false ∧ Safe (W.save D h l).2.2.files) ∨
    ((W.save D h l).1 = 7 ∧ ¬ (h.term < 0 ∨ h.vote < 0 ∨ (l.any fun e => !e.right) = true) ∧ layE (begun W.segs) D.unf h (decide (h ≠ W.hard)) (l.map entText) = 0 ∧ Died D (W.save D h l).2.2 (segFile (lastS (begun W.segs))) (layT (begun W.segs) h (decide (h ≠ W.hard)) (l.map entText))) := by
  unfold LogS.save
  by_cases h1 : h.term < 0 ∨ h.vote < 0 ∨ (l.any fun e => !e.right) = true
  · rw [if_pos h1, if_pos h1]; exact .inl ⟨rfl, by simp, rfl, rfl, hd, hs⟩
  rw [if_neg h1, if_neg h1]
  by_cases h2 : l = [] ∧ h = W.hard
  · rw [if_pos h2, if_pos h2]; exact .inl ⟨rfl, by simp, rfl, rfl, hd, hs⟩
  rw [if_neg h2, if_neg h2]
  rcases lay_fuse hd (begun W.segs) h (decide (h ≠ W.hard)) (l.map entText) with ⟨a1, a2, a3, a4, a5, a6⟩ | ⟨a1, a2, a3⟩ | ⟨a1, a2, a3, a4, a5, a6⟩
  · left
    rw [if_pos (by rw [a2]; exact a1), if_pos a1, a5, a6, a4]
    exact ⟨a2, a3, rfl, rfl, hd, hs⟩
  · right
    rw [if_pos (by rw [a2]; simp)]
    exact ⟨a2, h1, a1, a3⟩
  · left
    rw [if_neg (by rw [a2]; simp), if_neg (by rw [a1]; simp), a3]
    exact ⟨rfl, by simp, rfl, a4, a5, by dsimp only; rw [a6]; exact hs.aput _ _⟩
theorem reset_fuse {W : LogS} {D : DiskS} (hd : D.dead = false) (hs : Safe D.files) :
    ((W.reset D).1 = (W.reset D.unf).1 ∧ (W.reset D).1 ≠ 7 ∧ (W.reset D).2.1 = (W.reset D.unf).2.1 ∧ (W.reset D).2.2.unf = (W.reset D.unf).2.2 ∧ (W.reset D).2.2.dead = false ∧ Safe (W.reset D).2.2.files) ∨
    ((W.reset D).1 = 7 ∧ layE W.segs D.unf W.hard false [resetText] = 0 ∧ Died D (W.reset D).2.2 (segFile (lastS W.segs)) (layT W.segs W.hard false [resetText])) := by
  unfold LogS.reset
  rcases lay_fuse hd W.segs W.hard false [resetText] with ⟨a1, a2, a3, a4, a5, a6⟩ | ⟨a1, a2, a3⟩ | ⟨a1, a2, a3, a4, a5, a6⟩
  · left
    rw [if_pos (by rw [a2]; exact a1), if_pos a1, a5, a6, a4]
    exact ⟨a2, a3, rfl, rfl, hd, hs⟩
  · right
    rw [if_pos (by rw [a2]; simp)]
    exact ⟨a2, a1, a3⟩
  · left
    rw [if_neg (by rw [a2]; simp), if_neg (by rw [a1]; simp), a3]
    exact ⟨rfl, by simp, rfl, a4, a5, by dsimp only; rw [a6]; exact hs.aput _ _⟩
end Go.Proofs.YtaeefjcbmkiiaaaGreatDoor
/- A crash: what is left of records that were not safe, and what is read of it: plain. -/
namespace Go.Proofs.YtaeefjcbmkiiaaaGreatDoor
open Go Sl
set_option linter.unusedVariables false
set_option linter.unusedSimpArgs false
set_option maxHeartbeats 1000000
def nthI (l : List Int) (k : Nat) : Int := l.getD k 0
def noiseB (n : Int) : UInt8 := UInt8.ofNat (n % 256).toNat
/-- So many bytes are left. -/
def tearN (f : FileS) (kp : Int) : Int := f.synced + min (max kp 0) ((f.bytes.length : Int) - f.synced)
def tearB (f : FileS) (kp nz : Int) : List UInt8 := if f.synced < tearN f kp then f.bytes.take (tearN f kp - 1).toNat ++ [f.bytes.getD (tearN f kp - 1).toNat 0 ^^^ noiseB nz] else f.bytes.take f.synced.toNat
def tearF (f : FileS) (kp nz : Int) : FileS := ⟨tearB f kp nz, (tearB f kp nz).length⟩
/-- Names one by one: those whose files are not safe. -/
def crashL (kp nz : List Int) : List Nm → Nat → List (Nm × FileS) → List (Nm × FileS)
  | [], _, F => F
  | n :: l, k, F => if (((assoc F n).getD .none).bytes.length : Int) - ((assoc F n).getD .none).synced = 0 then crashL kp nz l k F else crashL kp nz l (k + 1) (aput F n (tearF ((assoc F n).getD .none) (nthI kp k) (nthI nz k)))
def DiskS.crash (D : DiskS) (kp nz : List Int) : DiskS := { D with files := crashL kp nz (sortN (D.files.map (·.1))) 0 D.files, fuse := -1, dead := false }

theorem tearB_len {f : FileS} (h : 0 ≤ f.synced ∧ f.synced ≤ f.bytes.length) (kp nz : Int) : (tearB f kp nz).length ≤ f.bytes.length := by
  unfold tearB
  split
  · rename_i h1
    unfold tearN at h1 ⊢
    rw [List.length_append, List.length_take]
    simp only [List.length_cons, List.length_nil]
    omega
  · rw [List.length_take]; omega
theorem assoc_aput_ne {κ α : Type} [DecidableEq κ] (l : List (κ × α)) {k j : κ} (x : α) (h : j ≠ k) : assoc (aput l k x) j = assoc l j := by
  induction l with
  | nil => simp [aput, assoc, h]
  | cons p l ih =>
    obtain ⟨k', y⟩ := p
    unfold aput
    by_cases hk : k = k'
    · rw [if_pos hk]; subst hk; unfold assoc; rw [if_neg h, if_neg h]
    · rw [if_neg hk]; unfold assoc; rw [ih]
theorem crashL_inv (kp nz : List Int) : ∀ (l : List Nm) (k : Nat) (F : List (Nm × FileS)), (∀ n ∈ l, n ∈ F.map (·.1)) → (∀ p ∈ F, 0 ≤ p.2.synced ∧ p.2.synced ≤ p.2.bytes.length) →
    (crashL kp nz l k F).map (·.1) = F.map (·.1) ∧ DiskS.total (crashL kp nz l k F) ≤ DiskS.total F ∧ ∀ p ∈ crashL kp nz l k F, 0 ≤ p.2.synced ∧ p.2.synced ≤ p.2.bytes.length
  | [], k, F, _, hs => ⟨rfl, Nat.le_refl _, hs⟩
  | n :: l, k, F, hl, hs => by
    have hln := fun m hm => hl m (List.mem_cons_of_mem _ hm)
    unfold crashL
    split
    · exact crashL_inv kp nz l k F hln hs
    · have hn := hl n (List.mem_cons_self ..)
      cases ha : assoc F n with
      | none => exact absurd hn (assoc_none ha)
      | some f =>
        have hf := hs _ (assoc_mem ha)
        have hk := aput_keys F n (tearF f (nthI kp k) (nthI nz k))
        rw [if_pos hn] at hk
        have ht := total_aput F n (tearF f (nthI kp k) (nthI nz k))
        rw [ha] at ht
        have hb : (tearF f (nthI kp k) (nthI nz k)).bytes.length ≤ f.bytes.length := tearB_len hf _ _
        simp only [Option.map_some, Option.getD_some] at ht ⊢
        obtain ⟨i1, i2, i3⟩ := crashL_inv kp nz l (k + 1) (aput F n (tearF f (nthI kp k) (nthI nz k))) (fun m hm => by rw [hk]; exact hln m hm) (fun p hp => by
          rcases aput_mem hp with rfl | hp
          · exact ⟨Int.natCast_nonneg _, Int.le_refl _⟩
          · exact hs p hp)
        exact ⟨i1.trans hk, by omega, i3⟩
theorem mem_sortN {l : List Nm} {n : Nm} : n ∈ sortN l ↔ n ∈ l := by unfold sortN; exact List.mem_mergeSort
theorem DiskS.Ok.crash {D : DiskS} (h : D.Ok) (kp nz : List Int) : (D.crash kp nz).Ok := by
  obtain ⟨i1, i2, i3⟩ := crashL_inv kp nz (sortN (D.files.map (·.1))) 0 D.files (fun n hn => mem_sortN.1 hn) h.sy
  have hl : (crashL kp nz (sortN (D.files.map (·.1))) 0 D.files).length = D.files.length := by have := congrArg List.length i1; simpa using this
  exact {
    fz1 := Int.le_refl _
    fz2 := by show (-1 : Int) ≤ _; omega
    m0 := h.m0
    m1 := h.m1
    sz := by
      have := h.sz
      show (DiskS.total (crashL kp nz (sortN (D.files.map (·.1))) 0 D.files) : Int) ≤ D.most
      omega
    sy := i3
    nd := by show ((crashL kp nz (sortN (D.files.map (·.1))) 0 D.files).map (·.1)).Nodup; rw [i1]; exact h.nd
    ct := by show (crashL kp nz (sortN (D.files.map (·.1))) 0 D.files).length ≤ 40; rw [hl]; exact h.ct
    nm := fun p hp => by
      have hp' : p.1 ∈ D.files.map (·.1) := by rw [← i1]; exact List.mem_map.2 ⟨p, hp, rfl⟩
      obtain ⟨q, hq, he⟩ := List.mem_map.1 hp'
      rw [← he]; exact h.nm q hq }
theorem crash_keys {D : DiskS} (h : D.Ok) (kp nz : List Int) : (D.crash kp nz).files.map (·.1) = D.files.map (·.1) := by
  have h1 := crashL_inv kp nz (sortN (D.files.map (fun p : Nm × FileS => p.1))) 0 D.files (fun n hn => mem_sortN.1 hn) h.sy
  exact h1.1
theorem crashL_safe (kp nz : List Int) : ∀ (l : List Nm) (k : Nat) (F : List (Nm × FileS)), (∀ n f, assoc F n = some f → f.synced = f.bytes.length) → crashL kp nz l k F = F
  | [], k, F, _ => rfl
  | n :: l, k, F, hs => by
    unfold crashL
    rw [if_pos]
    · exact crashL_safe kp nz l k F hs
    · cases ha : assoc F n with
      | none => rfl
      | some f => have := hs n f ha; simp only [Option.getD_some]; omega
theorem Safe.assoc {F : List (Nm × FileS)} (h : Safe F) : ∀ n f, Sl.assoc F n = some f → f.synced = f.bytes.length := fun n f ha => h _ (assoc_mem ha)
theorem crash_safe {D : DiskS} (h : Safe D.files) (kp nz : List Int) : D.crash kp nz = { D with fuse := -1, dead := false } := by
  unfold DiskS.crash
  rw [crashL_safe _ _ _ _ _ h.assoc]
/-- Just one file is not safe. -/
theorem crashL_one (kp nz : List Int) (n : Nm) (f : FileS) : ∀ (l : List Nm) (k : Nat) (F : List (Nm × FileS)), l.Nodup → n ∈ l → (∀ m g, m ≠ n → assoc F m = some g → g.synced = g.bytes.length) → assoc F n = some f → (f.bytes.length : Int) - f.synced ≠ 0 → crashL kp nz l k F = aput F n (tearF f (nthI kp k) (nthI nz k))
  | [], k, F, _, hn, _, _, _ => by cases hn
  | m :: l, k, F, hnd, hn, hs, ha, hf => by
    rw [List.nodup_cons] at hnd
    unfold crashL
    by_cases hm : m = n
    · subst hm
      rw [ha]
      simp only [Option.getD_some]
      rw [if_neg hf]
      refine crashL_safe _ _ _ _ _ fun j g hj => ?_
      by_cases hjm : j = m
      · subst hjm
        rw [assoc_aput] at hj
        cases hj; rfl
      · rw [assoc_aput_ne _ _ hjm] at hj
        exact hs j g hjm hj
    · have hn' : n ∈ l := by
        rcases List.mem_cons.1 hn with h | h
        · exact absurd h.symm hm
        · exact h
      rw [if_pos]
      · exact crashL_one kp nz n f l k F hnd.2 hn' hs ha hf
      · cases hb : assoc F m with
        | none => rfl
        | some g => have := hs m g hm hb; simp only [Option.getD_some]; omega

/-! ### bytes of which an end is lost, and the last one that is left is another -/
def tear (T : List UInt8) (m : Nat) (b : UInt8) : List UInt8 := if m = 0 then [] else T.take (m - 1) ++ [T.getD (m - 1) 0 ^^^ b]
theorem tear_len {T : List UInt8} {m : Nat} (h : m ≤ T.length) (b : UInt8) : (tear T m b).length = m := by
  unfold tear
  split
  · rename_i h0; rw [h0]; rfl
  · rw [List.length_append, List.length_take]; simp only [List.length_cons, List.length_nil]; omega
theorem tearB_app (old T : List UInt8) (kp nz : Int) : tearB ⟨old ++ T, old.length⟩ kp nz = old ++ tear T (min (max kp 0) (T.length : Int)).toNat (noiseB nz) := by
  have hN : tearN ⟨old ++ T, old.length⟩ kp = old.length + min (max kp 0) (T.length : Int) := by
    unfold tearN; dsimp only; rw [List.length_append]; omega
  unfold tearB
  rw [hN]
  dsimp only
  by_cases h0 : (min (max kp 0) (T.length : Int)).toNat = 0
  · rw [if_neg (by omega), tear, if_pos h0]; simp
  · rw [if_pos (by omega), tear, if_neg h0]
    have e : ((old.length : Int) + min (max kp 0) (T.length : Int) - 1).toNat = old.length + ((min (max kp 0) (T.length : Int)).toNat - 1) := by omega
    rw [e, List.take_append, List.take_of_length_le (by omega)]
    rw [List.getD_eq_getElem?_getD, List.getElem?_append_right (by omega), ← List.getD_eq_getElem?_getD]
    rw [show old.length + ((min (max kp 0) (T.length : Int)).toNat - 1) - old.length = (min (max kp 0) (T.length : Int)).toNat - 1 by omega]
    rw [List.append_assoc]
theorem tear_app_le {F X : List UInt8} {m : Nat} (h : m ≤ F.length) (b : UInt8) : tear (F ++ X) m b = tear F m b := by
  unfold tear
  by_cases h0 : m = 0
  · rw [if_pos h0, if_pos h0]
  rw [if_neg h0, if_neg h0, List.take_append_of_le_length (by omega)]
  rw [List.getD_eq_getElem?_getD, List.getElem?_append_left (by omega), ← List.getD_eq_getElem?_getD]
theorem tear_app_gt {F X : List UInt8} {m : Nat} (h : F.length < m) (b : UInt8) : tear (F ++ X) m b = F ++ tear X (m - F.length) b := by
  unfold tear
  rw [if_neg (by omega), if_neg (by omega), List.take_append, List.take_of_length_le (by omega)]
  rw [List.getD_eq_getElem?_getD, List.getElem?_append_right (by omega), ← List.getD_eq_getElem?_getD, List.append_assoc]
  rw [show m - 1 - F.length = m - F.length - 1 by omega]
theorem tear_all (F : List UInt8) (x b : UInt8) : tear (F ++ [x]) (F.length + 1) b = F ++ [x ^^^ b] := by
  unfold tear
  rw [if_neg (by omega), Nat.add_sub_cancel, List.take_append_of_le_length (Nat.le_refl _), List.take_length]
  simp
/-! ### a sum tells two ends apart -/
theorem crcBit_inj {a b : Nat} (ha : a < 4294967296) (hb : b < 4294967296) (h : crcBit a = crcBit b) : a = b := by
  have top : ∀ x : Nat, x < 2147483648 → (x ^^^ 2197175160).testBit 31 = true ∧ x.testBit 31 = false := fun x hx => by
    have h1 : x.testBit 31 = false := Nat.testBit_lt_two_pow (by omega)
    refine ⟨?_, h1⟩
    rw [Nat.testBit_xor, h1]; decide
  have cancel : ∀ x y : Nat, x ^^^ 2197175160 = y ^^^ 2197175160 → x = y := fun x y hxy => by
    have := congrArg (· ^^^ 2197175160) hxy
    simpa [Nat.xor_assoc] using this
  have ta := top (a / 2) (by omega)
  have tb := top (b / 2) (by omega)
  unfold crcBit at h
  split at h <;> split at h
  · have := cancel _ _ h; omega
  · rw [h] at ta; rw [tb.2] at ta; exact absurd ta.1 (by simp)
  · rw [← h] at tb; rw [ta.2] at tb; exact absurd tb.1 (by simp)
  · omega
theorem crcByte_inj {c : Nat} (hc : c < 4294967296) {x y : UInt8} (h : crcByte c x = crcByte c y) : x = y := by
  have b : ∀ z : UInt8, c ^^^ z.toNat < 4294967296 := fun z => xor_lt32 hc (by have := z.toNat_lt; omega)
  unfold crcByte at h
  have l1 := fun z => crcBit_lt (b z)
  have l2 := fun z => crcBit_lt (l1 z)
  have l3 := fun z => crcBit_lt (l2 z)
  have l4 := fun z => crcBit_lt (l3 z)
  have l5 := fun z => crcBit_lt (l4 z)
  have l6 := fun z => crcBit_lt (l5 z)
  have l7 := fun z => crcBit_lt (l6 z)
  have := crcBit_inj (b x) (b y) (crcBit_inj (l1 x) (l1 y) (crcBit_inj (l2 x) (l2 y) (crcBit_inj (l3 x) (l3 y) (crcBit_inj (l4 x) (l4 y) (crcBit_inj (l5 x) (l5 y) (crcBit_inj (l6 x) (l6 y) (crcBit_inj (l7 x) (l7 y) h)))))))
  have h2 := congrArg (c ^^^ ·) this
  simp only [← Nat.xor_assoc, Nat.xor_self, Nat.zero_xor] at h2
  exact UInt8.toNat_inj.1 h2
theorem crc_last {s : List UInt8} {x y : UInt8} (h : crc (s ++ [x]) = crc (s ++ [y])) : x = y := by
  have hl := fun z : UInt8 => crcSum_lt (c := 4294967295) (by omega) (s ++ [z])
  have h1 := hl x
  have h2 := hl y
  unfold crc at h
  have h3 : crcSum 4294967295 (s ++ [x]) = crcSum 4294967295 (s ++ [y]) := by omega
  rw [crcSum_append, crcSum_append] at h3
  exact crcByte_inj (crcSum_lt (by omega) s) h3
theorem crc_lt (s : List UInt8) : crc s < 4294967296 := by unfold crc; omega
theorem four_inj {a b : Nat} (ha : a < 4294967296) (hb : b < 4294967296) (h : four a = four b) : a = b := by
  have h1 := be32_four ha []
  have h2 := be32_four hb []
  rw [h] at h1
  exact h1.symm.trans h2
theorem four_l15 (n : Nat) : (four n).length = 4 := rfl
/-- What is left over is refused. -/
def Bad (u : List UInt8) : Prop := u ≠ [] → (unframe u).1 ≠ 0
theorem be32_take {u F : List UInt8} (h : ∀ i, i < 4 → u.getD i 0 = F.getD i 0) : be32 u = be32 F := by
  unfold be32; rw [h 0 (by omega), h 1 (by omega), h 2 (by omega), h 3 (by omega)]
theorem bad_cut {t : List UInt8} (h1 : 1 ≤ t.length) (h2 : t.length ≤ 65536) {m : Nat} (hm : m ≤ (frame t).length) (b : UInt8) (hb : m < (frame t).length ∨ b ≠ 0) : Bad (tear (frame t) m b) := by
  intro hne h
  have hF := frame_length t
  have hm0 : m ≠ 0 := by rintro rfl; exact hne rfl
  have hlen := tear_len hm b
  obtain ⟨u, hu⟩ : ∃ u, u = tear (frame t) m b := ⟨_, rfl⟩
  rw [← hu] at hlen h
  have hbe : 8 ≤ m → be32 u = t.length := fun h8 => by
    have e1 : be32 u = be32 (frame t) := be32_take fun i hi => by
      rw [hu, tear, if_neg hm0, List.getD_eq_getElem?_getD, List.getElem?_append_left (by rw [List.length_take]; omega), List.getElem?_take_of_lt (by omega), ← List.getD_eq_getElem?_getD]
    rw [e1]
    unfold frame
    rw [List.append_assoc]
    exact be32_four (by omega) _
  unfold unframe at h
  split at h
  · exact absurd h (by decide)
  rename_i g1
  split at h
  · exact absurd h (by decide)
  rename_i g2
  split at h
  · exact absurd h (by decide)
  rename_i g3
  split at h
  · exact absurd h (by decide)
  rename_i g4
  have h8 : 8 ≤ m := by omega
  have e := hbe h8
  rw [e] at g3 g4
  have hme : m = (frame t).length := by omega
  have hb0 : b ≠ 0 := by rcases hb with h | h; omega; exact h
  rw [List.take_of_length_le (by omega)] at g4
  have g4' : frame (u.drop 8) = u := by simpa using g4
  obtain ⟨t0, x, rfl⟩ := ne_end (S := t) (by rintro rfl; simp at h1)
  have hsplit : frame (t0 ++ [x]) = (four (t0 ++ [x]).length ++ four (crc (four (t0 ++ [x]).length ++ (t0 ++ [x]))) ++ t0) ++ [x] := by
    unfold frame; simp only [List.append_assoc]
  have hul : u = (four (t0 ++ [x]).length ++ four (crc (four (t0 ++ [x]).length ++ (t0 ++ [x]))) ++ t0) ++ [x ^^^ b] := by
    rw [hu, hme, hsplit]
    generalize (four (t0 ++ [x]).length ++ four (crc (four (t0 ++ [x]).length ++ (t0 ++ [x]))) ++ t0) = H
    rw [List.length_append]
    exact tear_all H x b
  have hdrop : u.drop 8 = t0 ++ [x ^^^ b] := by
    rw [hul, List.append_assoc, List.drop_append_of_le_length (by simp [four])]
    simp [four]
  rw [hdrop] at g4'
  rw [hul] at g4'
  unfold frame at g4'
  have hlx : (t0 ++ [x ^^^ b]).length = (t0 ++ [x]).length := by simp
  rw [hlx] at g4'
  simp only [List.append_assoc] at g4'
  have g5 := List.append_cancel_left g4'
  have g6 := List.append_inj_left g5 (by simp [four_l15])
  have g7 := four_inj (crc_lt _) (crc_lt _) g6
  rw [← List.append_assoc, ← List.append_assoc] at g7
  have g8 := crc_last g7
  apply hb0
  have := congrArg (x ^^^ ·) g8
  simp only [← UInt8.xor_assoc, UInt8.xor_self, UInt8.zero_xor] at this
  exact this
theorem encInt_pos {n : Int} : 1 ≤ (encInt n).length := by
  unfold encInt encNat
  rw [List.length_append]; simp
theorem Rec.text_pos (r : Rec) : 1 ≤ r.text.length := by
  cases r with
  | hard h =>
    show 1 ≤ (encInts [1, h.term, h.vote]).length
    unfold encInts; rw [List.flatMap_cons, List.length_append]; have := encInt_pos (n := 1); omega
  | ent e =>
    show 1 ≤ (encInts [2, e.index, e.term, e.kind] ++ encTexts [e.data]).length
    unfold encInts; rw [List.flatMap_cons, List.length_append, List.length_append]; have := encInt_pos (n := 2); omega
  | reset =>
    show 1 ≤ (encInts [3]).length
    unfold encInts; rw [List.flatMap_cons, List.length_append]; have := encInt_pos (n := 3); omega
/-- What is left of records: some of them, and what is refused. -/
theorem tear_recs (b : UInt8) : ∀ (rs : List Rec) (m : Nat), (∀ r ∈ rs, r.Good) → m ≤ (bytesOf rs).length → ∃ k u, k ≤ rs.length ∧ tear (bytesOf rs) m b = bytesOf (rs.take k) ++ u ∧ Bad u
  | [], m, _, hm => ⟨0, [], Nat.le_refl _, by
      have : m = 0 := by simpa [bytesOf, texts, frames] using hm
      subst this; rfl, fun h => absurd rfl h⟩
  | r :: rs, m, hg, hm => by
    have hr := hg r (List.mem_cons_self ..)
    have hp := r.text_pos
    have hl := Rec.text_len hr
    rw [bytesOf_cons] at hm ⊢
    by_cases h0 : m = 0
    · subst h0; exact ⟨0, [], Nat.zero_le _, rfl, fun h => absurd rfl h⟩
    by_cases h1 : m < (frame r.text).length ∨ (m = (frame r.text).length ∧ b ≠ 0)
    · rw [tear_app_le (by omega)]
      exact ⟨0, _, Nat.zero_le _, rfl, bad_cut hp hl (by omega) b (by rcases h1 with h | h; exact .inl h; exact .inr h.2)⟩
    by_cases h2 : m = (frame r.text).length
    · have hb : b = 0 := Classical.byContradiction fun h => h1 (.inr ⟨h2, h⟩)
      subst hb
      refine ⟨1, [], by simp, ?_, fun h => absurd rfl h⟩
      rw [tear_app_le (by omega), List.take_succ_cons, List.take_zero, List.append_nil, bytesOf_cons]
      obtain ⟨F, x, hF⟩ := ne_end (S := frame r.text) (by intro h; rw [h] at h2; exact h0 h2)
      rw [h2, hF, List.length_append]
      refine (tear_all F x 0).trans ?_
      simp [bytesOf, texts, frames]
    · rw [tear_app_gt (by omega)]
      rw [List.length_append] at hm
      obtain ⟨k, u, i1, i2, i3⟩ := tear_recs b rs (m - (frame r.text).length) (fun q hq => hg q (List.mem_cons_of_mem _ hq)) (by omega)
      refine ⟨k + 1, u, by simp; omega, ?_, i3⟩
      rw [i2, List.take_succ_cons, bytesOf_cons, List.append_assoc]
theorem readE_app : ∀ (l : List Rec) (W : LogS) (u : List UInt8), (∀ r ∈ l, r.Good) → readE W (bytesOf l ++ u) = readE (l.foldl LogS.step W) u
  | [], W, u, _ => rfl
  | r :: l, W, u, hg => by
    have hr := hg r (List.mem_cons_self ..)
    have hu := unframe_frame (Rec.text_len hr) (bytesOf l ++ u)
    rw [bytesOf_cons, List.append_assoc]
    rw [readE_ok (r := r) (by rw [hu]) (by rw [hu]; exact toRec_text hr), hu]
    dsimp only
    rw [List.drop_append_of_le_length (by rw [frame_length]; omega), List.drop_of_length_le (by rw [frame_length]; omega), List.nil_append]
    exact readE_app l (W.step r) u fun q hq => hg q (List.mem_cons_of_mem _ hq)
end Go.Proofs.YtaeefjcbmkiiaaaGreatDoor
/- A log opened behind a crash: plain. -/
namespace Go.Proofs.YtaeefjcbmkiiaaaGreatDoor
open Go Sl
set_option linter.unusedVariables false
set_option linter.unusedSimpArgs false
set_option maxHeartbeats 1000000
/-- What lies on a disk behind a crash: whole segments; the last one's records, and what is refused. -/
structure Torn (D : DiskS) (A : GL) (q : Seg) (R : List Rec) (u : List UInt8) : Prop where
  ok : D.Ok
  dead : D.dead = false
  safe : Safe D.files
  cont : cont D = (A.map fun g => (segFile g.1, bytesOf g.2)) ++ [(segFile q, bytesOf R ++ u)]
  bad : Bad u
  good : ∀ g ∈ A, ∀ r ∈ g.2, r.Good
  goodR : ∀ r ∈ R, r.Good
  inc : (A.map (·.1.number) ++ [q.number]).Pairwise (· < ·)
  rng : ∀ g ∈ A, 1 ≤ g.1.number ∧ g.1.number < 100
  rngq : 1 ≤ q.number ∧ q.number < 100
theorem find_of_cont {D : DiskS} (hd : D.dead = false) (hnd : (D.files.map (·.1)).Nodup) {n : Nm} {b : List UInt8} (hm : (n, b) ∈ cont D) : ∃ f, D.find n = (f, 0) ∧ f.bytes = b ∧ assoc D.files n = some f := by
  unfold cont at hm
  obtain ⟨p, hp, he⟩ := List.mem_map.1 hm
  simp only [Prod.mk.injEq] at he
  have ha := assoc_of_nodup hnd hp
  rw [he.1] at ha
  exact ⟨p.2, by unfold DiskS.find; rw [if_neg (by rw [hd]; simp), ha], he.2, ha⟩
theorem cont_keys (D : DiskS) : (cont D).map (·.1) = D.files.map (·.1) := by unfold cont; rw [List.map_map]; rfl
theorem segs_named {D : DiskS} {L : List (Seg × List UInt8)} (hc : cont D = L.map fun g => (segFile g.1, g.2)) (hr : ∀ g ∈ L, 1 ≤ g.1.number ∧ g.1.number < 100) : Named D := by
  intro p hp
  have hm : (p.1, p.2.bytes) ∈ cont D := List.mem_map.2 ⟨p, hp, rfl⟩
  rw [hc] at hm
  obtain ⟨g, hg, he⟩ := List.mem_map.1 hm
  have hr := hr g hg
  refine ⟨g.1.number.toNat, by omega, by omega, ?_⟩
  exact (congrArg Prod.fst he).symm
theorem segs_nums {D : DiskS} {L : List (Seg × List UInt8)} (hc : cont D = L.map fun g => (segFile g.1, g.2)) (hr : ∀ g ∈ L, 1 ≤ g.1.number ∧ g.1.number < 100) (hi : (L.map (·.1.number)).Pairwise (· < ·)) : segNums D = L.map (·.1.number) := by
  have e1 : (D.files.map (·.1)).map numOf = L.map (·.1.number) := by
    rw [← cont_keys, hc, List.map_map, List.map_map]
    apply List.map_congr_left
    intro g hg
    have hr := hr g hg
    show numOf (segName g.1.number.toNat) = _
    rw [numOf_seg (by omega)]; omega
  have hp := segNums_perm D
  rw [e1] at hp
  refine List.Perm.eq_of_pairwise (le := fun a b => a ≤ b) (fun a b _ _ h1 h2 => by omega) ?_ ?_ hp
  · have tr : ∀ a b c : Int, leZ a b = true → leZ b c = true → leZ a c = true := fun a b c h1 h2 => by simp only [leZ, decide_eq_true_eq] at *; omega
    have to : ∀ a b : Int, (leZ a b || leZ b a) = true := fun a b => by simp only [leZ, Bool.or_eq_true, decide_eq_true_eq]; omega
    have := List.pairwise_mergeSort tr to ((sortN (D.files.map (·.1))).map numOf)
    exact this.imp fun h => by simpa [leZ] using h
  · exact hi.imp fun h => by omega
section
variable {D : DiskS} {A : GL} {q : Seg} {R : List Rec} {u : List UInt8}
theorem Torn.list (h : Torn D A q R u) : Go.Proofs.YtaeefjcbmkiiaaaGreatDoor.cont D = (A.map (fun g => (g.1, bytesOf g.2)) ++ [(q, bytesOf R ++ u)]).map fun g => (segFile g.1, g.2) := by
  rw [h.cont, List.map_append, List.map_map]; rfl
theorem Torn.all (h : Torn D A q R u) : ∀ g ∈ A.map (fun g => (g.1, bytesOf g.2)) ++ [(q, bytesOf R ++ u)], 1 ≤ g.1.number ∧ g.1.number < 100 := fun g hg => by
  rcases List.mem_append.1 hg with hg | hg
  · obtain ⟨x, hx, rfl⟩ := List.mem_map.1 hg
    exact h.rng x hx
  · rw [List.mem_singleton.1 hg]; exact h.rngq
theorem Torn.named (h : Torn D A q R u) : Named D := segs_named h.list h.all
theorem Torn.nums (h : Torn D A q R u) : segNums D = A.map (·.1.number) ++ [q.number] := by
  have e : (A.map (fun g => (g.1, bytesOf g.2)) ++ [(q, bytesOf R ++ u)]).map (·.1.number) = A.map (·.1.number) ++ [q.number] := by
    rw [List.map_append, List.map_map]; rfl
  rw [← e]
  exact segs_nums h.list h.all (by rw [e]; exact h.inc)
theorem Torn.ne (h : Torn D A q R u) : D.files ≠ [] := by
  intro hn
  have := h.cont
  unfold Go.Proofs.YtaeefjcbmkiiaaaGreatDoor.cont at this
  rw [hn] at this
  simp at this
theorem fold_end (A : GL) (q : Seg) (R : List Rec) : foldOf (A ++ [(q, R)]) = R.foldl Rec.app (foldOf A) := by
  unfold foldOf
  rw [List.flatMap_append, List.foldl_append]; simp
theorem torn_go (h : Torn D A q R u) : ∀ (A2 A1 : GL) (W : LogS), A = A1 ++ A2 → (W.hard, W.ents) = foldOf A1 →
    ∃ W', openGo (A2.map (·.1.number) ++ [q.number]) W D = openGo [q.number] W' D ∧ (W'.hard, W'.ents) = foldOf A
  | [], A1, W, hA, hf => by
    rw [List.append_nil] at hA
    subst hA
    exact ⟨W, rfl, hf⟩
  | g :: A2, A1, W, hA, hf => by
    have hg : g ∈ A := by rw [hA]; simp
    have hlast : lastS (W.push g.1.number).segs = ⟨g.1.number, 0, 0⟩ := lastS_end _ _
    have hfile : segFile (lastS (W.push g.1.number).segs) = segFile g.1 := by rw [hlast]; rfl
    obtain ⟨f, r1, r2, _⟩ := find_of_cont h.dead h.ok.nd (n := segFile g.1) (b := bytesOf g.2) (by rw [h.cont]; exact List.mem_append_left _ (List.mem_map.2 ⟨g, hg, rfl⟩))
    have hread : readE (W.push g.1.number) (bytesOf g.2) = (g.2.foldl LogS.step (W.push g.1.number), [], 0) := readAll_bytes g.2 _ _ (h.good g hg) (Nat.le_refl _)
    have hseg : ∀ last, (W.push g.1.number).readSeg D last = (0, g.2.foldl LogS.step (W.push g.1.number), D) := fun last => by
      unfold LogS.readSeg
      rw [hfile, r1, r2, hread, if_neg (by simp), if_pos rfl]
    rw [List.map_cons, List.cons_append, openGo, hseg, if_neg (by simp)]
    refine torn_go h A2 (A1 ++ [g]) _ (by rw [hA]; simp) ?_
    dsimp only
    rw [steps_he]
    obtain ⟨s, rs⟩ := g
    rw [fold_end, ← hf]
    rfl
theorem truncate_fuse {D : DiskS} {n : Nm} {f : FileS} (hf : D.find n = (f, 0)) {k : Nat} (hk : k ≤ f.bytes.length) (hs : f.synced = f.bytes.length) :
    D.truncate n k = if D.fuse = 0 then (7, { D with dead := true }) else (0, { D with files := aput D.files n ⟨f.bytes.take k, (f.bytes.take k).length⟩, fuse := max (D.fuse - 1) (-1) }) := by
  unfold DiskS.truncate DiskS.does
  rw [hf]
  dsimp only
  have hc : (if (k : Int) < 0 ∨ (f.bytes.length : Int) < k then (2 : Int) else 0) = 0 := if_neg (by omega)
  rw [if_neg (by simp), if_neg (fun h => h hc)]
  have e : (⟨f.bytes.take (k : Int).toNat, min f.synced k⟩ : FileS) = ⟨f.bytes.take k, (f.bytes.take k).length⟩ := by
    rw [List.length_take, hs]; congr 1; omega
  rw [e]
  by_cases h0 : D.fuse = 0
  · rw [turn_zero h0, if_pos h0]; simp
  · rw [turn_on h0, if_neg h0]; simp
/-- The last segment's name stands nowhere ahead. -/
theorem Torn.notin (h : Torn D A q R u) : segFile q ∉ (A.map fun g => (segFile g.1, bytesOf g.2)).map (·.1) := by
  refine key_notin (fun g hg => ?_) h.rng h.rngq.2 h.rngq.1
  have := (List.pairwise_append.1 h.inc).2.2 _ (List.mem_map.2 ⟨g, hg, rfl⟩) q.number (by simp)
  exact this
/-- The last segment without what is refused. -/
theorem Torn.trim (h : Torn D A q R u) {E : DiskS} (hok : E.Ok) (hd : E.dead = false) (hf : E.files = aput D.files (segFile q) ⟨bytesOf R, (bytesOf R).length⟩) : Torn E A q R [] :=
  { h with
    ok := hok
    dead := hd
    safe := by rw [hf]; exact h.safe.aput _ _
    cont := by
      have e1 : Go.Proofs.YtaeefjcbmkiiaaaGreatDoor.cont E = aput (Go.Proofs.YtaeefjcbmkiiaaaGreatDoor.cont D) (segFile q) (bytesOf R) := by
        unfold Go.Proofs.YtaeefjcbmkiiaaaGreatDoor.cont; rw [hf]; exact aput_map FileS.bytes _ _ _
      rw [e1, h.cont, aput_end _ _ h.notin, List.append_nil]
    bad := fun h => absurd rfl h }
theorem Torn.same (h : Torn D A q R u) {E : DiskS} (hok : E.Ok) (hd : E.dead = false) (hf : E.files = D.files) : Torn E A q R u :=
  { h with
    ok := hok
    dead := hd
    safe := by rw [hf]; exact h.safe
    cont := by
      have e1 : Go.Proofs.YtaeefjcbmkiiaaaGreatDoor.cont E = Go.Proofs.YtaeefjcbmkiiaaaGreatDoor.cont D := by unfold Go.Proofs.YtaeefjcbmkiiaaaGreatDoor.cont; rw [hf]
      rw [e1]; exact h.cont }
/-- Opened behind a crash: it is read; or the power goes again, and behind that it can be read. -/
theorem torn_open (h : Torn D A q R u) :
    ((openGo (segNums D) ⟨⟨0, 0⟩, [], []⟩ D).1 = 0 ∧ ((openGo (segNums D) ⟨⟨0, 0⟩, [], []⟩ D).2.1.hard, (openGo (segNums D) ⟨⟨0, 0⟩, [], []⟩ D).2.1.ents) = foldOf (A ++ [(q, R)])) ∨
    (D.fuse ≠ -1 ∧ (openGo (segNums D) ⟨⟨0, 0⟩, [], []⟩ D).1 = 7 ∧ (openGo (segNums D) ⟨⟨0, 0⟩, [], []⟩ D).2.2.Ok ∧ (openGo (segNums D) ⟨⟨0, 0⟩, [], []⟩ D).2.2.most = D.most ∧ ∃ u', ∀ kp nz, Torn ((openGo (segNums D) ⟨⟨0, 0⟩, [], []⟩ D).2.2.crash kp nz) A q R u') := by
  obtain ⟨W, w1, w2⟩ := torn_go h A [] ⟨⟨0, 0⟩, [], []⟩ rfl rfl
  rw [h.nums, w1]
  have hlast : lastS (W.push q.number).segs = ⟨q.number, 0, 0⟩ := lastS_end _ _
  have hfile : segFile (lastS (W.push q.number).segs) = segFile q := by rw [hlast]; rfl
  obtain ⟨f, r1, r2, r3⟩ := find_of_cont h.dead h.ok.nd (n := segFile q) (b := bytesOf R ++ u) (by rw [h.cont]; simp)
  have hsy := h.safe _ (assoc_mem r3)
  dsimp only at hsy
  obtain ⟨W1, hW1⟩ : ∃ W1, W1 = R.foldl LogS.step (W.push q.number) := ⟨_, rfl⟩
  have hhe : (W1.hard, W1.ents) = foldOf (A ++ [(q, R)]) := by
    rw [hW1, steps_he, fold_end, ← w2]; rfl
  have hsz : (lastS W1.segs).size = ((bytesOf R).length : Nat) := by
    rw [hW1, steps_segs R (W.push q.number) W.segs ⟨q.number, 0, 0⟩ rfl, lastS_end]
    simp
  have hread : readE (W.push q.number) f.bytes = readE W1 u := by rw [r2, readE_app R _ u h.goodR, hW1]
  have hgo : ∀ r : Int × LogS × DiskS, (W.push q.number).readSeg D true = r → openGo [q.number] W D = r := fun r hr => by
    unfold openGo
    rw [show decide (([] : List Int) = []) = true by simp, hr]
    split
    · rfl
    · rename_i hz
      obtain ⟨a, b, c⟩ := r
      have : a = 0 := by simpa using hz
      rw [this]; rfl
  by_cases hu : u = []
  · left
    rw [hu] at hread
    rw [hgo (0, W1, D) (by
      unfold LogS.readSeg
      rw [hfile, r1, hread, if_neg (by simp), readE_nil, if_pos rfl])]
    exact ⟨rfl, hhe⟩
  have hbad := readE_bad (W := W1) hu (.inl (h.bad hu))
  obtain ⟨e, he⟩ : ∃ e, e = (if (unframe u).1 = 9 then (9 : Int) else 8) := ⟨_, rfl⟩
  rw [← he] at hbad
  rw [hbad] at hread
  have hlen : (bytesOf R).length ≤ f.bytes.length := by rw [r2, List.length_append]; omega
  have htr := truncate_fuse r1 hlen hsy
  have htake : f.bytes.take (bytesOf R).length = bytesOf R := by rw [r2, List.take_append_of_le_length (Nat.le_refl _), List.take_length]
  rw [htake] at htr
  have hseg : (W.push q.number).readSeg D true = if (D.truncate (segFile q) (bytesOf R).length).1 ≠ 0 then ((D.truncate (segFile q) (bytesOf R).length).1, W1, (D.truncate (segFile q) (bytesOf R).length).2) else (((D.truncate (segFile q) (bytesOf R).length).2.sync (segFile q)).1, W1, ((D.truncate (segFile q) (bytesOf R).length).2.sync (segFile q)).2) := by
    unfold LogS.readSeg
    rw [hfile, r1, hread, if_neg (by simp), if_neg hu, if_neg (by simp)]
    dsimp only
    rw [hsz]
  have hok1 := h.ok.truncate (segFile q) (bytesOf R).length
  by_cases h0 : D.fuse = 0
  · right
    rw [if_pos h0] at htr
    rw [htr, if_pos (by simp)] at hseg
    rw [htr] at hok1
    rw [hgo _ hseg]
    refine ⟨by omega, rfl, hok1, rfl, u, fun kp nz => ?_⟩
    dsimp only
    rw [crash_safe (D := { D with dead := true }) h.safe]
    have hc := hok1.crash [] []
    rw [crash_safe (D := { D with dead := true }) h.safe] at hc
    exact h.same hc rfl rfl
  rw [if_neg h0] at htr
  rw [htr, if_neg (by simp)] at hseg
  rw [htr] at hok1
  dsimp only at hseg
  obtain ⟨F, hF⟩ : ∃ F, F = aput D.files (segFile q) ⟨bytesOf R, (bytesOf R).length⟩ := ⟨_, rfl⟩
  rw [← hF] at hseg hok1
  have hFs : Safe F := by rw [hF]; exact h.safe.aput _ _
  have hs := (sync_fuse (D := { D with files := F, fuse := max (D.fuse - 1) (-1) }) (n := segFile q) (f := ⟨bytesOf R, (bytesOf R).length⟩) (by
    unfold DiskS.find; rw [if_neg (show ¬ D.dead = true by rw [h.dead]; simp)]; dsimp only; rw [hF, assoc_aput])).2
  have hok2 := DiskS.Ok.sync (D := { D with files := F, fuse := max (D.fuse - 1) (-1) }) hok1 (segFile q)
  dsimp only at hs
  by_cases h1 : max (D.fuse - 1) (-1) = 0
  · right
    rw [if_pos h1] at hs
    rw [hs] at hseg hok2
    rw [hgo _ hseg]
    refine ⟨by omega, rfl, hok2, rfl, [], fun kp nz => ?_⟩
    dsimp only
    rw [crash_safe (D := { D with files := F, fuse := max (D.fuse - 1) (-1), dead := true }) hFs]
    have hc := hok2.crash [] []
    rw [crash_safe (D := { D with files := F, fuse := max (D.fuse - 1) (-1), dead := true }) hFs] at hc
    exact h.trim hc rfl hF
  · left
    rw [if_neg h1] at hs
    rw [hs] at hseg
    rw [hgo _ hseg]
    exact ⟨rfl, hhe⟩
end
end Go.Proofs.YtaeefjcbmkiiaaaGreatDoor
/- A write that the power's going stopped, behind the crash; what is then read: plain. -/
namespace Go.Proofs.YtaeefjcbmkiiaaaGreatDoor
open Go Sl
set_option linter.unusedVariables false
set_option linter.unusedSimpArgs false
set_option maxHeartbeats 1000000
/-- The last segment, which is there or is new, and what it holds. -/
theorem lays_key {S0 S : List Seg} {D : DiskS} {G : GL} (hd : D.dead = false) (hnd : (D.files.map (·.1)).Nodup) (hK : Lays S0 D G) (hne : S0 ≠ []) (hg : S = S0 ∨ (S = next S0 ∧ (lastS S0).number < 99)) :
    ∃ (A : GL) (q : Seg) (R : List Rec), S = A.map (·.1) ++ [q] ∧ (∀ g ∈ A, g ∈ G) ∧ (∀ r ∈ R, r.Good) ∧ ((A ++ [(q, R)]).map (·.1.number)).Pairwise (· < ·) ∧ (1 ≤ q.number ∧ q.number < 100) ∧ foldOf (A ++ [(q, R)]) = foldOf G ∧ (D.find (segFile q)).1.bytes = bytesOf R ∧ ∀ X, aput (cont D) (segFile q) X = (A.map fun g => (segFile g.1, bytesOf g.2)) ++ [(segFile q, X)] := by
  have hGne : G ≠ [] := by rintro rfl; exact hne (by rw [hK.segs]; rfl)
  obtain ⟨A, x, rfl⟩ := ne_end hGne
  obtain ⟨q, R⟩ := x
  have hx : (q, R) ∈ A ++ [(q, R)] := by simp
  have hqr := hK.rng _ hx
  have hAn := mem_num hK.inc rfl
  have hS0 : S0 = A.map (·.1) ++ [q] := by rw [hK.segs]; simp
  rcases hg with rfl | ⟨rfl, h99⟩
  · refine ⟨A, q, R, hS0, fun g hg => by simp [hg], hK.good _ hx, hK.inc, hqr, rfl, (hK.read hd hnd hx).2, fun X => ?_⟩
    rw [hK.cont, List.map_append, List.map_cons, List.map_nil]
    exact aput_end _ _ (key_notin hAn (fun g hg => hK.rng g (by simp [hg])) hqr.2 hqr.1)
  · have hlast : lastS S0 = q := by rw [hS0, lastS_end]
    rw [hlast] at h99
    have hall : ∀ g ∈ A ++ [(q, R)], g.1.number < q.number + 1 := fun g hg => by
      rcases List.mem_append.1 hg with hg | hg
      · have := hAn g hg; dsimp only at this; omega
      · rw [List.mem_singleton.1 hg]; dsimp only; omega
    have hnot : segFile ⟨q.number + 1, 0, 0⟩ ∉ (cont D).map (·.1) := by
      rw [hK.cont]
      exact key_notin (q := ⟨q.number + 1, 0, 0⟩) hall hK.rng (by dsimp only; omega) (by dsimp only at hqr ⊢; omega)
    refine ⟨A ++ [(q, R)], ⟨q.number + 1, 0, 0⟩, [], ?_, fun g hg => hg, fun r hr => (by cases hr), ?_, ⟨by dsimp only at hqr ⊢; omega, by dsimp only; omega⟩, ?_, ?_, fun X => ?_⟩
    · unfold next; rw [hlast, hS0, List.map_append]; rfl
    · rw [List.map_append, List.pairwise_append]
      refine ⟨hK.inc, by simp, fun a ha b hb => ?_⟩
      obtain ⟨g, hg, rfl⟩ := List.mem_map.1 ha
      simp only [List.map_cons, List.map_nil, List.mem_singleton] at hb
      rw [hb]; exact hall g hg
    · rw [fold_end]; rfl
    · rw [find_cont hd, assoc_no hnot]; rfl
    · rw [aput_no _ hnot, hK.cont]
/-- What can be read behind a crash: what was, and a beginning of some records. -/
structure Left (E : DiskS) (x : Hrd × List Ent) (rs : List Rec) : Prop where
  ok : E.Ok
  most : E.most ≤ 100000
  left : ∀ kp nz, ∃ (A : GL) (q : Seg) (R : List Rec) (u : List UInt8) (k : Nat), k ≤ rs.length ∧ Torn (E.crash kp nz) A q R u ∧ foldOf (A ++ [(q, R)]) = (rs.take k).foldl Rec.app x
theorem left_still {S : List Seg} {D E : DiskS} {G : GL} (hd : D.dead = false) (hK : Lays S D G) (hne : S ≠ []) (hs : Safe D.files) (hE : E.files = D.files) (hok : E.Ok) (hm : E.most ≤ 100000) (rs : List Rec) : Left E (foldOf G) rs where
  ok := hok
  most := hm
  left kp nz := by
    have hnd : (D.files.map (·.1)).Nodup := by rw [← hE]; exact hok.nd
    obtain ⟨A, q, R, k1, k2, k3, k4, k5, k6, k7, k8⟩ := lays_key hd hnd hK hne (.inl rfl)
    have hs' : Safe E.files := by rw [hE]; exact hs
    have hcr := crash_safe hs' kp nz
    have hck := hok.crash kp nz
    rw [hcr] at hck
    have hGne : G ≠ [] := by rintro rfl; exact hne (by rw [hK.segs]; rfl)
    refine ⟨A, q, R, [], 0, Nat.zero_le _, ?_, by rw [k6]; rfl⟩
    rw [hcr]
    refine { ok := hck, dead := rfl, safe := hs', cont := ?_, bad := fun h => absurd rfl h, good := fun g hg => hK.good g (k2 g hg), goodR := k3, inc := by rw [List.map_append] at k4; exact k4, rng := fun g hg => hK.rng g (k2 g hg), rngq := k5 }
    have hq : q ∈ G.map (·.1) := by rw [← hK.segs, k1]; simp
    obtain ⟨g, hg, hgq⟩ := List.mem_map.1 hq
    have hmem : (segFile q, bytesOf g.2) ∈ cont D := by rw [hK.cont, ← hgq]; exact List.mem_map.2 ⟨g, hg, rfl⟩
    obtain ⟨f, f1, f2, f3⟩ := find_of_cont hd hnd hmem
    have hb : bytesOf g.2 = bytesOf R := by rw [← k7, f1, f2]
    have e1 := k8 (bytesOf R)
    have ha : assoc (cont D) (segFile q) = some (bytesOf R) := by
      unfold cont; rw [assoc_mapv, f3, Option.map_some, f2, hb]
    rw [aput_self ha] at e1
    rw [List.append_nil, ← e1]
    unfold cont
    dsimp only
    rw [hE]
theorem left_died {S0 S : List Seg} {D E : DiskS} {G : GL} (hd : D.dead = false) (hK : Lays S0 D G) (hne : S0 ≠ []) (hg : S = S0 ∨ (S = next S0 ∧ (lastS S0).number < 99)) (hs : Safe D.files) (hokD : D.Ok) {rs : List Rec} (hgood : ∀ r ∈ rs, r.Good) (hDi : Died D E (segFile (lastS S)) (bytesOf rs)) (hok : E.Ok) (hm : E.most ≤ 100000) : Left E (foldOf G) rs := by
  obtain ⟨_, _, hE | hE⟩ := hDi
  · exact left_still hd hK hne hs hE hok hm rs
  refine ⟨hok, hm, fun kp nz => ?_⟩
  have hnd := hokD.nd
  obtain ⟨A, q, R, k1, k2, k3, k4, k5, k6, k7, k8⟩ := lays_key hd hnd hK hne hg
  have hlast : lastS S = q := by rw [k1, lastS_end]
  rw [hlast] at hE
  have hsy : (D.find (segFile q)).1.synced = ((D.find (segFile q)).1.bytes.length : Nat) := by
    unfold DiskS.find
    rw [if_neg (by rw [hd]; simp)]
    cases ha : assoc D.files (segFile q) with
    | none => rfl
    | some f => exact hs _ (assoc_mem ha)
  rw [hsy, k7] at hE
  obtain ⟨m, hmv⟩ : ∃ m, m = (min (max (nthI kp 0) 0) ((bytesOf rs).length : Int)).toNat := ⟨_, rfl⟩
  obtain ⟨T', hT'⟩ : ∃ T', T' = tear (bytesOf rs) m (noiseB (nthI nz 0)) := ⟨_, rfl⟩
  have hcf : (E.crash kp nz).files = aput D.files (segFile q) ⟨bytesOf R ++ T', (bytesOf R ++ T').length⟩ := by
    show crashL kp nz (sortN (E.files.map (·.1))) 0 E.files = _
    by_cases hT : bytesOf rs = []
    · have : T' = [] := by rw [hT'] ; have : m = 0 := by rw [hmv, hT]; simp only [List.length_nil]; omega
                           rw [this]; rfl
      rw [this, hE, hT, List.append_nil]
      exact crashL_safe _ _ _ _ _ (hs.aput _ _).assoc
    · have hTl := List.length_pos_iff.2 hT
      have hkn : (E.files.map (·.1)).Nodup := hok.nd
      have h1 := crashL_one kp nz (segFile q) ⟨bytesOf R ++ bytesOf rs, ((bytesOf R).length : Nat)⟩ (sortN (E.files.map (·.1))) 0 E.files ((List.mergeSort_perm _ _).nodup_iff.2 hkn) (by
        rw [sortN, List.mem_mergeSort, hE, aput_keys]
        split
        · assumption
        · simp) (fun j g hj ha => by
          rw [hE, assoc_aput_ne _ _ hj] at ha
          exact hs _ (assoc_mem ha)) (by rw [hE, assoc_aput]) (by dsimp only; rw [List.length_append]; omega)
      rw [h1, hE, aput_aput]
      have e2 : tearB ⟨bytesOf R ++ bytesOf rs, ((bytesOf R).length : Nat)⟩ (nthI kp 0) (nthI nz 0) = bytesOf R ++ T' := by rw [tearB_app, hT', hmv]
      unfold tearF
      rw [e2]
  have hck := hok.crash kp nz
  obtain ⟨k, u, t1, t2, t3⟩ := tear_recs (noiseB (nthI nz 0)) rs m hgood (by rw [hmv]; omega)
  rw [← hT'] at t2
  refine ⟨A, q, R ++ rs.take k, u, k, t1, ?_, ?_⟩
  · refine { ok := hck, dead := rfl, safe := by rw [hcf]; exact hs.aput _ _, cont := ?_, bad := t3, good := fun g hg => hK.good g (k2 g hg), goodR := fun r hr => ?_, inc := by rw [List.map_append] at k4; exact k4, rng := fun g hg => hK.rng g (k2 g hg), rngq := k5 }
    · have e1 : cont (E.crash kp nz) = aput (cont D) (segFile q) (bytesOf R ++ T') := by
        unfold cont; rw [hcf]; exact aput_map FileS.bytes _ _ _
      rw [e1, k8, t2, bytesOf_append, List.append_assoc]
    · rcases List.mem_append.1 hr with hr | hr
      · exact k3 r hr
      · exact hgood r (List.mem_of_mem_take hr)
  · rw [fold_end, List.foldl_append, ← fold_end A q, k6]
/-- A beginning of what a save lays down: what it makes of what was. -/
theorem begin_save (S : List Seg) (h h0 : Hrd) (E : List Ent) (l : List Ent) (k : Nat) {x : Hrd × List Ent} (hx : x = ((toldR S h (decide (h ≠ h0)) (l.map Rec.ent)).take k).foldl Rec.app (h0, E)) :
    x = (h0, E) ∨ ((x.1 = h0 ∨ x.1 = h) ∧ ∃ j, j ≤ l.length ∧ x.2 = (l.take j).foldl putE E) := by
  have key : ∀ (y : Hrd) (k : Nat), ((l.map Rec.ent).take k).foldl Rec.app (y, E) = (y, (l.take k).foldl putE E) := fun y k => by
    rw [← List.map_take, app_ents]
  unfold toldR at hx
  split at hx
  · cases k with
    | zero => exact .inl hx
    | succ k =>
      right
      rw [List.take_succ_cons, List.foldl_cons] at hx
      have e := key h k
      have hx' : x = (h, (l.take k).foldl putE E) := hx.trans e
      rw [hx']
      refine ⟨.inr rfl, min k l.length, Nat.min_le_right _ _, ?_⟩
      dsimp only
      by_cases hk : k ≤ l.length
      · rw [Nat.min_eq_left hk]
      · rw [Nat.min_eq_right (by omega), List.take_of_length_le (by omega), List.take_length]
  · right
    rw [key] at hx
    rw [hx]
    refine ⟨.inl rfl, min k l.length, Nat.min_le_right _ _, ?_⟩
    dsimp only
    by_cases hk : k ≤ l.length
    · rw [Nat.min_eq_left hk]
    · rw [Nat.min_eq_right (by omega), List.take_of_length_le (by omega), List.take_length]
theorem begin_reset (S : List Seg) (h0 : Hrd) (E : List Ent) (k : Nat) {x : Hrd × List Ent} (hx : x = ((toldR S h0 false [Rec.reset]).take k).foldl Rec.app (h0, E)) : x = (h0, E) ∨ (x.1 = h0 ∧ x.2 = []) := by
  have key : ∀ k : Nat, (([Rec.reset] : List Rec).take k).foldl Rec.app (h0, E) = (h0, E) ∨ (([Rec.reset] : List Rec).take k).foldl Rec.app (h0, E) = (h0, []) := fun k => by
    cases k with
    | zero => exact .inl rfl
    | succ k => right; rw [List.take_succ_cons]; simp [Rec.app]
  unfold toldR at hx
  split at hx
  · cases k with
    | zero => exact .inl hx
    | succ k =>
      rw [List.take_succ_cons, List.foldl_cons] at hx
      rcases key k with h | h
      · exact .inl (hx.trans h)
      · exact .inr (by rw [hx.trans h]; exact ⟨rfl, rfl⟩)
  · rcases key k with h | h
    · exact .inl (hx.trans h)
    · exact .inr (by rw [hx.trans h]; exact ⟨rfl, rfl⟩)
end Go.Proofs.YtaeefjcbmkiiaaaGreatDoor
/- A part of a string and a byte of it, looked at again: rules. -/
namespace Go.Proofs.YtaeefjcbmkiiaaaGreatDoor.Sl
open Go Go.RowKit
section
variable {c : Ctx} {st : St} {Γ : List Assn} {d : Option Tmp} {ty : TypeId} {pos : String} {af : Array Edge} {g : Option (Nat × Bool)} {x y : Operand} {T : TypeId} {a : List UInt8}
theorem RO_ixb [ht : TStr c.P T] {i : IntKind} {n : Int} (hx : ev st x = some (vs a)) (hy : ev st y = some (.int i n)) (hb : 0 ≤ n ∧ n < a.length) : RO c st Γ ⟨d, .index T x y, ty, pos, af, g⟩ (.int .u8 (a.getD n.toNat 0).toNat) := fun ac w ha _ => by
  have hlt : n.toNat < a.length := by omega
  have := run_index_string (P := c.P) w T (bs a) i n ht.h
  rw [dif_pos ⟨hb.1, by rw [bs_size]; exact hb.2⟩] at this
  simp only [execOp, ev_eval ha hx, ev_eval ha hy, Sem.run_bind, this, Result.andThen_ok]
  have e : (bs a)[n.toNat]'(by rw [bs_size]; exact hlt) = a.getD n.toNat 0 := by
    rw [List.getD_eq_getElem?_getD, List.getElem?_eq_getElem hlt]; rfl
  rw [e]; rfl
theorem RO_slbh [ht : TStr c.P T] {hi : Operand} {j : IntKind} {n : Int} (hx : ev st x = some (vs a)) (hh : ev st hi = some (.int j n)) (hb : 0 ≤ n ∧ n ≤ a.length) : RO c st Γ ⟨d, .slice T x none (some hi) none, ty, pos, af, g⟩ (vs (a.take n.toNat)) := fun ac w ha _ => by
  simp only [execOp, ev_eval ha hx, ev_eval ha hh, Option.map_some, Option.map_none, Instr.sliceAt, Instr.slice, Sem.run_bind, run_underlying ht.h, Result.andThen_ok, Instr.sliceBounds, bs_size]
  simp [run_sliceB (P := c.P) (w := w) (j := j) (code := .sliceAlen) (y := a.length) (i := n) ⟨by omega, hb.2⟩, bs_extract]
end
end Go.Proofs.YtaeefjcbmkiiaaaGreatDoor.Sl
/- Crash, walked. -/
namespace Go.Proofs.YtaeefjcbmkiiaaaGreatDoor
open Go Sl
attribute [local irreducible] J JR JS RO CR Arr Sat Tr sat blk
set_option linter.unusedVariables false
set_option linter.unusedSimpArgs false
set_option maxHeartbeats 1000000
set_option maxRecDepth 4000
theorem nth_tr (v : Value) (L : List Int) (k : Nat) (hk : k ≤ 1000000) (hl : L.length ≤ 1000000) : Tr Tryz.prog 47 [v, .int .i64 k] [rsl intE v L] fun r Γ => r = .int .i64 (nthI L k) ∧ Γ = [rsl intE v L] := by
  refine Tr_of_J Tryz.func47 follows rfl Tryz.ntmps47 (by simp) fun B F => ?_
  repeat' (first | refine mv ?_ | refine asn ?_ | refine jn ?_ | refine nl ?_ | refine ld rfl ?_ | refine sq ?_ | refine rg ?_ | refine lnb ?_ | refine lls rfl ?_ | refine lss ?_ | refine kp ?_ | refine ct ?_ | refine cf ?_ | (refine cd (fun hc => ?_) (fun hc => ?_) <;> try (exfalso; omega)) | (refine cn (fun hc => ?_) (fun hc => ?_) <;> try (exfalso; omega)) | refine bl ?_ | refine ib ?_ | refine xt ?_ | refine la rfl ?_ | refine ixa rfl rfl ?_ | refine lde rfl ?_ | refine lae rfl ?_ | refine af_ ?_ | refine cb (fun hc => ?_) (fun hc => ?_))
  · refine rt ?_
    exact ⟨_, ⟨rfl, rfl⟩, _, by repeat constructor⟩
  · have : nthI L k = 0 := by
      unfold nthI
      rw [List.getD_eq_getElem?_getD, List.getElem?_eq_none (by omega)]; rfl
    rw [this]
    refine rt ?_
    exact ⟨_, ⟨rfl, rfl⟩, _, by repeat constructor⟩
theorem wrapI_u8 (n : Int) : IntKind.u8.wrap n = (((n % 256).toNat : Nat) : Int) := by
  unfold IntKind.wrap; simp [IntKind.bits, IntKind.signed]; omega
theorem byte_noise (a : UInt8) (n : Int) : IntKind.u8.wrap ((BitVec.ofInt IntKind.u8.bits (a.toNat : Int) ^^^ BitVec.ofInt IntKind.u8.bits (((n % 256).toNat : Nat) : Int)).toNat : Int) = ((a ^^^ noiseB n).toNat : Int) := by
  show IntKind.u8.wrap ((BitVec.ofInt 8 ((a.toNat : Nat) : Int) ^^^ BitVec.ofInt 8 (((n % 256).toNat : Nat) : Int)).toNat : Int) = _
  rw [BitVec.ofInt_natCast, BitVec.ofInt_natCast, BitVec.toNat_xor, BitVec.toNat_ofNat, BitVec.toNat_ofNat, wrapI_u8]
  have h1 := a.toNat_lt
  have h2 : (n % 256).toNat < 256 := by omega
  have e : (a ^^^ noiseB n).toNat = a.toNat ^^^ (n % 256).toNat := by
    unfold noiseB
    rw [UInt8.toNat_xor, UInt8.toNat_ofNat', Nat.mod_eq_of_lt h2]
  rw [e, Nat.mod_eq_of_lt (show a.toNat < 2 ^ 8 from h1), Nat.mod_eq_of_lt (show (n % 256).toNat < 2 ^ 8 from h2)]
  have h3 : a.toNat ^^^ (n % 256).toNat < 2 ^ 8 := Nat.xor_lt_two_pow h1 h2
  omega
theorem crash_tr (d m : Nat) (D : DiskS) (hD : D.Ok) (kv nv : Value) (kpl nzl : List Int) (hk : kpl.length ≤ 1000000) (hn : nzl.length ≤ 1000000) :
    Tr Tryz.prog 25 [.pointer (some ⟨d, 0, none⟩), kv, nv] [blk d (dcell m D), mp fmap m D.files, rsl intE kv kpl, rsl intE nv nzl]
      fun v Γ => Γ = [blk d (dcell m (D.crash kpl nzl)), mp fmap m (D.crash kpl nzl).files, rsl intE kv kpl, rsl intE nv nzl] := by
  obtain ⟨names, hna⟩ : ∃ l, l = sortN (D.files.map (·.1)) := ⟨_, rfl⟩
  have hnl : names.length = D.files.length := by rw [hna]; unfold sortN; rw [List.length_mergeSort, List.length_map]
  have hnm : ∀ n ∈ names, n ∈ D.files.map (·.1) := fun n hx => by rw [hna] at hx; exact List.mem_mergeSort.1 hx
  have hct := hD.ct
  refine Tr_of_J Tryz.func25 follows rfl Tryz.ntmps25 (by simp) fun B F => ?_
  repeat' (first | (refine cl (list_tr d m D hD) ?_; rintro v1 Γ' rfl; rw [← hna]; refine n3 ?_) | refine mv ?_ | refine asn ?_ | refine jn ?_ | refine nl ?_ | refine ld rfl ?_ | refine nc ?_ | refine f0 ?_ | refine sq ?_ | refine rg ?_ | refine lnb ?_ | refine lls rfl ?_ | refine ad ?_ | refine sb ?_ | refine lss ?_ | refine eql ?_ | refine gtr ?_ | refine kp ?_ | refine ct ?_ | refine cf ?_ | (refine cd (fun hc => ?_) (fun hc => ?_) <;> try (exfalso; omega)) | (refine cn (fun hc => ?_) (fun hc => ?_) <;> try (exfalso; omega)) | refine bl ?_ | refine ib ?_ | refine xt ?_ | refine al (fun b_ => ?_) | refine sr rfl ?_ | refine la rfl ?_ | refine ixa rfl rfl ?_ | refine fe ?_ | refine lde rfl ?_ | refine lae rfl ?_ | refine fa ?_ | refine bld ?_ | refine cc ?_ | refine ixb ?_ | refine slb ?_ | refine slbl ?_ | refine slbh ?_ | refine cv ?_ | refine mx ?_ | refine mn ?_ | refine af_ ?_ | refine aw ?_ | refine sw ?_ | refine sli rfl ?_ | refine slil rfl ?_ | refine slih rfl ?_ | refine cb (fun hc => ?_) (fun hc => ?_) | refine J_draw (id := 7) [(0, true, []), (1, true, []), (2, true, []), (3, true, []), (6, true, []), (4, false, [0, 1, 6]), (5, true, []), (7, true, []), (8, true, []), (9, true, [])] (by kernel_rfl) ?_ | refine J_draw (id := 9) [(0, true, []), (1, true, []), (2, true, []), (3, true, []), (4, true, []), (5, true, []), (6, true, []), (7, true, []), (8, true, []), (9, true, []), (10, true, []), (11, true, []), (12, false, [0, 1, 2, 3, 4, 5, 6, 7, 8, 9]), (13, true, []), (14, true, []), (15, false, [0, 1, 2, 3, 4]), (16, true, []), (17, true, []), (18, true, []), (19, false, [])] (by kernel_rfl) ?_ | refine J_draw (id := 11) [(0, true, []), (1, true, []), (2, true, []), (3, true, []), (4, true, []), (5, true, []), (6, true, []), (7, true, []), (8, true, []), (9, true, []), (10, true, []), (11, false, [])] (by kernel_rfl) ?_ | refine JS_cons rfl rfl (RO_move rfl) ?_ | refine JS_cons rfl rfl (RO_nilCheck rfl) ?_ | refine JS_cons rfl rfl (RO_fieldAddr0 rfl) ?_ | refine JS_cons rfl rfl (RO_load rfl (by rfl)) ?_ | refine JS_off rfl ?_ | refine JS_cons rfl rfl (RO_fieldAddr rfl) ?_ | refine JS_cons rfl rfl (RO_lnb rfl) ?_ | refine JS_cons rfl rfl (RO_lls rfl) ?_ | refine JS_cons rfl rfl (RO_add_in rfl rfl (by omega)) ?_ | refine JS_cons rfl rfl (RO_sub_in rfl rfl (by omega)) ?_ | refine JS_cons rfl rfl (RO_ixa rfl rfl (by omega)) ?_ | refine JS_cons rfl rfl (RO_fe rfl) ?_ | refine JS_cons rfl rfl (RO_lde rfl (by omega) rfl) ?_ | refine JS_cons rfl rfl (RO_slih rfl rfl (by omega)) ?_ | refine JS_cons rfl rfl (RO_slil rfl rfl (by omega)) ?_ | refine JS_offu rfl ?_ | refine JS_cons rfl rfl (RO_cc rfl rfl (by omega)) ?_ | refine JS_cons rfl rfl (RO_bld rfl (by (repeat (first | exact FillS.nil | (apply FillS.cons; rfl; rfl; constructor; rfl; (focus repeat constructor)))))) ?_ | refine JS_cons rfl rfl (RO_lae rfl (by omega) (by repeat constructor)) ?_ | refine JS_cons rfl rfl (RO_loadAgg rfl (by repeat constructor)) ?_)
  refine lp (α := Nat × Nat × List (Nm × FileS)) (fun y => [(0, .pointer (some ⟨d, 0, none⟩)), (1, kv), (2, nv), (6, .int .i64 y.2.1), (13, v1), (14, .int .i64 names.length), (15, .int .i64 y.1)]) (fun y => [sl 9 strE v1 names, blk d (dcell m D), mp fmap m y.2.2, rsl intE kv kpl, rsl intE nv nzl]) (fun y => y.1 ≤ names.length ∧ y.2.1 ≤ y.1 ∧ y.2.2.map (·.1) = D.files.map (·.1) ∧ DiskS.total y.2.2 ≤ DiskS.total D.files ∧ (∀ p ∈ y.2.2, 0 ≤ p.2.synced ∧ p.2.synced ≤ p.2.bytes.length) ∧ crashL kpl nzl names 0 D.files = crashL kpl nzl (names.drop y.1) y.2.1 y.2.2) (fun y => names.length - y.1) (0, 0, D.files) ?_ ⟨Nat.zero_le _, Nat.le_refl _, rfl, Nat.le_refl _, hD.sy, rfl⟩
  rintro ⟨i, k, Fs⟩ ⟨hi, hki, hkeys, htot, hsy, hgo⟩ again
  dsimp only at hi hki hkeys htot hsy hgo again ⊢
  by_cases hin : i < names.length
  · obtain ⟨x, hx⟩ : ∃ x, x = names.getD i strE.dflt := ⟨_, rfl⟩
    have hxg : x = names[i] := by rw [hx, List.getD_eq_getElem?_getD, List.getElem?_eq_getElem hin]; rfl
    have hxm : x ∈ Fs.map (·.1) := by rw [hkeys]; exact hnm x (by rw [hxg]; exact List.getElem_mem hin)
    have hdrop : names.drop i = x :: names.drop (i + 1) := by rw [hxg]; exact List.drop_eq_getElem_cons hin
    have hsz := hD.sz
    have hm1 := hD.m1
    obtain ⟨f, hf⟩ : ∃ f, assoc Fs x = some f := by
      cases ha : assoc Fs x with
      | none => exact absurd hxm (assoc_none ha)
      | some f => exact ⟨f, rfl⟩
    have hfs := hsy _ (assoc_mem hf)
    have hfl := assoc_total hf
    dsimp only at hfs
    have hgo1 : (f.bytes.length : Int) - f.synced = 0 → crashL kpl nzl names 0 D.files = crashL kpl nzl (names.drop (i + 1)) k Fs := fun h => by
      rw [hgo, hdrop, crashL, hf]
      exact if_pos h
    have hgo2 : ¬ (f.bytes.length : Int) - f.synced = 0 → crashL kpl nzl names 0 D.files = crashL kpl nzl (names.drop (i + 1)) (k + 1) (aput Fs x (tearF f (nthI kpl k) (nthI nzl k))) := fun h => by
      rw [hgo, hdrop, crashL, hf]
      exact if_neg h
    clear hgo
    have hT1 : f.synced < (f.synced + min (max (nthI kpl k) 0) ((f.bytes.length : Int) - f.synced)) → tearF f (nthI kpl k) (nthI nzl k) = ⟨f.bytes.take ((f.synced + min (max (nthI kpl k) 0) ((f.bytes.length : Int) - f.synced)) - 1).toNat ++ [f.bytes.getD ((f.synced + min (max (nthI kpl k) 0) ((f.bytes.length : Int) - f.synced)) - 1).toNat 0 ^^^ noiseB (nthI nzl k)], ((f.bytes.take ((f.synced + min (max (nthI kpl k) 0) ((f.bytes.length : Int) - f.synced)) - 1).toNat ++ [f.bytes.getD ((f.synced + min (max (nthI kpl k) 0) ((f.bytes.length : Int) - f.synced)) - 1).toNat 0 ^^^ noiseB (nthI nzl k)]).length : Nat)⟩ := fun h => by
      unfold tearF tearB
      rw [if_pos (show f.synced < tearN f (nthI kpl k) from h)]; rfl
    have hT2 : ¬ f.synced < (f.synced + min (max (nthI kpl k) 0) ((f.bytes.length : Int) - f.synced)) → tearF f (nthI kpl k) (nthI nzl k) = ⟨f.bytes.take f.synced.toNat, ((f.bytes.take f.synced.toNat).length : Nat)⟩ := fun h => by
      unfold tearF tearB
      rw [if_neg (show ¬ f.synced < tearN f (nthI kpl k) from h)]
    have hlen := tearB_len hfs (nthI kpl k) (nthI nzl k)
    have hkey : (aput Fs x (tearF f (nthI kpl k) (nthI nzl k))).map (·.1) = D.files.map (·.1) := by rw [aput_keys, if_pos hxm, hkeys]
    have htot2 : DiskS.total (aput Fs x (tearF f (nthI kpl k) (nthI nzl k))) ≤ DiskS.total D.files := by
      have ht := total_aput Fs x (tearF f (nthI kpl k) (nthI nzl k))
      rw [hf] at ht
      simp only [Option.map_some, Option.getD_some] at ht
      have hl2 : (tearF f (nthI kpl k) (nthI nzl k)).bytes.length ≤ f.bytes.length := hlen
      omega
    have hsy2 : ∀ p ∈ aput Fs x (tearF f (nthI kpl k) (nthI nzl k)), 0 ≤ p.2.synced ∧ p.2.synced ≤ p.2.bytes.length := fun p hp => by
      rcases aput_mem hp with rfl | hp
      · exact ⟨Int.natCast_nonneg _, Int.le_refl _⟩
      · exact hsy p hp
    repeat' (first | (refine lko (M := fmap) (q := x) rfl (by rw [hx]; rfl) (fun f' hf' => ?_) (fun hf' => absurd (hf.symm.trans hf') (by simp)); obtain rfl : f = f' := Option.some.inj (hf.symm.trans hf')) | (refine cle rfl (nth_tr kv kpl k (by omega) hk) ?_; rintro v Γ' ⟨rfl, rfl⟩; refine n1 ?_) | (refine cle rfl (nth_tr nv nzl k (by omega) hn) ?_; rintro v Γ' ⟨rfl, rfl⟩; refine n1 ?_) | refine cvr (r := (((nthI nzl k % 256).toNat : Nat) : Int)) ?_ (wrapI_u8 _) | refine bxor ?_ (byte_noise _ (nthI nzl k)) | refine bsl (e := byteE) (X := [f.bytes.getD ((f.synced + min (max (nthI kpl k) 0) ((f.bytes.length : Int) - f.synced)) - 1).toNat 0 ^^^ noiseB (nthI nzl k)]) (fun v2 => ?_) (.cona rfl rfl .nil) | refine bst (L := [f.bytes.getD ((f.synced + min (max (nthI kpl k) 0) ((f.bytes.length : Int) - f.synced)) - 1).toNat 0 ^^^ noiseB (nthI nzl k)]) rfl ?_ | refine cc ?_ rfl rfl (by simp; omega) | refine mpu (q := x) (xv := ⟨f.bytes.take ((f.synced + min (max (nthI kpl k) 0) ((f.bytes.length : Int) - f.synced)) - 1).toNat ++ [f.bytes.getD ((f.synced + min (max (nthI kpl k) 0) ((f.bytes.length : Int) - f.synced)) - 1).toNat 0 ^^^ noiseB (nthI nzl k)], ((f.bytes.take ((f.synced + min (max (nthI kpl k) 0) ((f.bytes.length : Int) - f.synced)) - 1).toNat ++ [f.bytes.getD ((f.synced + min (max (nthI kpl k) 0) ((f.bytes.length : Int) - f.synced)) - 1).toNat 0 ^^^ noiseB (nthI nzl k)]).length : Nat)⟩) rfl (by rw [hx]; rfl) rfl rfl ?_ | refine mpu (q := x) (xv := ⟨f.bytes.take f.synced.toNat, ((f.bytes.take f.synced.toNat).length : Nat)⟩) rfl (by rw [hx]; rfl) rfl rfl ?_ | refine JS_cons rfl rfl (RO_slbh rfl rfl (by omega)) ?_ | refine JS_cons rfl rfl (RO_ixb rfl rfl (by omega)) ?_ | refine mv ?_ | refine asn ?_ | refine jn ?_ | refine nl ?_ | refine ld rfl ?_ | refine nc ?_ | refine f0 ?_ | refine sq ?_ | refine rg ?_ | refine lnb ?_ | refine lls rfl ?_ | refine ad ?_ | refine sb ?_ | refine lss ?_ | refine eql ?_ | refine gtr ?_ | refine kp ?_ | refine ct ?_ | refine cf ?_ | (refine cd (fun hc => ?_) (fun hc => ?_) <;> try (exfalso; omega)) | (refine cn (fun hc => ?_) (fun hc => ?_) <;> try (exfalso; omega)) | refine bl ?_ | refine ib ?_ | refine xt ?_ | refine al (fun b_ => ?_) | refine sr rfl ?_ | refine la rfl ?_ | refine ixa rfl rfl ?_ | refine fe ?_ | refine lde rfl ?_ | refine lae rfl ?_ | refine fa ?_ | refine bld ?_ | refine cc ?_ | refine ixb ?_ | refine slb ?_ | refine slbl ?_ | refine slbh ?_ | refine cv ?_ | refine mx ?_ | refine mn ?_ | refine af_ ?_ | refine aw ?_ | refine sw ?_ | refine sli rfl ?_ | refine slil rfl ?_ | refine slih rfl ?_ | refine cb (fun hc => ?_) (fun hc => ?_) | refine J_draw (id := 7) [(0, true, []), (1, true, []), (2, true, []), (3, true, []), (6, true, []), (4, false, [0, 1, 6]), (5, true, []), (7, true, []), (8, true, []), (9, true, [])] (by kernel_rfl) ?_ | refine J_draw (id := 9) [(0, true, []), (1, true, []), (2, true, []), (3, true, []), (4, true, []), (5, true, []), (6, true, []), (7, true, []), (8, true, []), (9, true, []), (10, true, []), (11, true, []), (12, false, [0, 1, 2, 3, 4, 5, 6, 7, 8, 9]), (13, true, []), (14, true, []), (15, false, [0, 1, 2, 3, 4]), (16, true, []), (17, true, []), (18, true, []), (19, false, [])] (by kernel_rfl) ?_ | refine J_draw (id := 11) [(0, true, []), (1, true, []), (2, true, []), (3, true, []), (4, true, []), (5, true, []), (6, true, []), (7, true, []), (8, true, []), (9, true, []), (10, true, []), (11, false, [])] (by kernel_rfl) ?_ | refine JS_cons rfl rfl (RO_move rfl) ?_ | refine JS_cons rfl rfl (RO_nilCheck rfl) ?_ | refine JS_cons rfl rfl (RO_fieldAddr0 rfl) ?_ | refine JS_cons rfl rfl (RO_load rfl (by rfl)) ?_ | refine JS_off rfl ?_ | refine JS_cons rfl rfl (RO_fieldAddr rfl) ?_ | refine JS_cons rfl rfl (RO_lnb rfl) ?_ | refine JS_cons rfl rfl (RO_lls rfl) ?_ | refine JS_cons rfl rfl (RO_add_in rfl rfl (by omega)) ?_ | refine JS_cons rfl rfl (RO_sub_in rfl rfl (by omega)) ?_ | refine JS_cons rfl rfl (RO_ixa rfl rfl (by omega)) ?_ | refine JS_cons rfl rfl (RO_fe rfl) ?_ | refine JS_cons rfl rfl (RO_lde rfl (by omega) rfl) ?_ | refine JS_cons rfl rfl (RO_slih rfl rfl (by omega)) ?_ | refine JS_cons rfl rfl (RO_slil rfl rfl (by omega)) ?_ | refine JS_offu rfl ?_ | refine JS_cons rfl rfl (RO_cc rfl rfl (by omega)) ?_ | refine JS_cons rfl rfl (RO_bld rfl (by (repeat (first | exact FillS.nil | (apply FillS.cons; rfl; rfl; constructor; rfl; (focus repeat constructor)))))) ?_ | refine JS_cons rfl rfl (RO_lae rfl (by omega) (by repeat constructor)) ?_ | refine JS_cons rfl rfl (RO_loadAgg rfl (by repeat constructor)) ?_)
    · exact ag (again (i + 1, k, Fs) ⟨hin, by dsimp only; omega, hkeys, htot, hsy, hgo1 (by assumption)⟩ (by dsimp only; omega))
    · rw [← hT1 (by assumption)]
      exact ag (again (i + 1, k + 1, _) ⟨hin, by dsimp only; omega, hkey, htot2, hsy2, hgo2 (by assumption)⟩ (by dsimp only; omega))
    · rw [← hT2 (by assumption)]
      exact ag (again (i + 1, k + 1, _) ⟨hin, by dsimp only; omega, hkey, htot2, hsy2, hgo2 (by assumption)⟩ (by dsimp only; omega))
  · have hii : i = names.length := by omega
    subst hii
    rw [List.drop_length] at hgo
    clear again
    repeat' (first | refine mv ?_ | refine asn ?_ | refine jn ?_ | refine nl ?_ | refine ld rfl ?_ | refine nc ?_ | refine f0 ?_ | refine sq ?_ | refine rg ?_ | refine lnb ?_ | refine lls rfl ?_ | refine ad ?_ | refine sb ?_ | refine lss ?_ | refine eql ?_ | refine gtr ?_ | refine kp ?_ | refine ct ?_ | refine cf ?_ | (refine cd (fun hc => ?_) (fun hc => ?_) <;> try (exfalso; omega)) | (refine cn (fun hc => ?_) (fun hc => ?_) <;> try (exfalso; omega)) | refine bl ?_ | refine ib ?_ | refine xt ?_ | refine al (fun b_ => ?_) | refine sr rfl ?_ | refine la rfl ?_ | refine ixa rfl rfl ?_ | refine fe ?_ | refine lde rfl ?_ | refine lae rfl ?_ | refine fa ?_ | refine bld ?_ | refine cc ?_ | refine ixb ?_ | refine slb ?_ | refine slbl ?_ | refine slbh ?_ | refine cv ?_ | refine mx ?_ | refine mn ?_ | refine af_ ?_ | refine aw ?_ | refine sw ?_ | refine sli rfl ?_ | refine slil rfl ?_ | refine slih rfl ?_ | refine cb (fun hc => ?_) (fun hc => ?_) | refine J_draw (id := 7) [(0, true, []), (1, true, []), (2, true, []), (3, true, []), (6, true, []), (4, false, [0, 1, 6]), (5, true, []), (7, true, []), (8, true, []), (9, true, [])] (by kernel_rfl) ?_ | refine J_draw (id := 9) [(0, true, []), (1, true, []), (2, true, []), (3, true, []), (4, true, []), (5, true, []), (6, true, []), (7, true, []), (8, true, []), (9, true, []), (10, true, []), (11, true, []), (12, false, [0, 1, 2, 3, 4, 5, 6, 7, 8, 9]), (13, true, []), (14, true, []), (15, false, [0, 1, 2, 3, 4]), (16, true, []), (17, true, []), (18, true, []), (19, false, [])] (by kernel_rfl) ?_ | refine J_draw (id := 11) [(0, true, []), (1, true, []), (2, true, []), (3, true, []), (4, true, []), (5, true, []), (6, true, []), (7, true, []), (8, true, []), (9, true, []), (10, true, []), (11, false, [])] (by kernel_rfl) ?_ | refine JS_cons rfl rfl (RO_move rfl) ?_ | refine JS_cons rfl rfl (RO_nilCheck rfl) ?_ | refine JS_cons rfl rfl (RO_fieldAddr0 rfl) ?_ | refine JS_cons rfl rfl (RO_load rfl (by rfl)) ?_ | refine JS_off rfl ?_ | refine JS_cons rfl rfl (RO_fieldAddr rfl) ?_ | refine JS_cons rfl rfl (RO_lnb rfl) ?_ | refine JS_cons rfl rfl (RO_lls rfl) ?_ | refine JS_cons rfl rfl (RO_add_in rfl rfl (by omega)) ?_ | refine JS_cons rfl rfl (RO_sub_in rfl rfl (by omega)) ?_ | refine JS_cons rfl rfl (RO_ixa rfl rfl (by omega)) ?_ | refine JS_cons rfl rfl (RO_fe rfl) ?_ | refine JS_cons rfl rfl (RO_lde rfl (by omega) rfl) ?_ | refine JS_cons rfl rfl (RO_slih rfl rfl (by omega)) ?_ | refine JS_cons rfl rfl (RO_slil rfl rfl (by omega)) ?_ | refine JS_offu rfl ?_ | refine JS_cons rfl rfl (RO_cc rfl rfl (by omega)) ?_ | refine JS_cons rfl rfl (RO_bld rfl (by (repeat (first | exact FillS.nil | (apply FillS.cons; rfl; rfl; constructor; rfl; (focus repeat constructor)))))) ?_ | refine JS_cons rfl rfl (RO_lae rfl (by omega) (by repeat constructor)) ?_ | refine JS_cons rfl rfl (RO_loadAgg rfl (by repeat constructor)) ?_)
    have e : D.crash kpl nzl = ⟨Fs, D.most, -1, false⟩ := by
      unfold DiskS.crash
      rw [← hna, hgo]; rfl
    rw [e]
    refine rte ?_
    exact ⟨_, rfl, _, by repeat constructor⟩
end Go.Proofs.YtaeefjcbmkiiaaaGreatDoor
/- The law WalKeeps: acts where the power may go; what can be read behind a crash: plain. -/
namespace Go.Proofs.YtaeefjcbmkiiaaaGreatDoor
open Go Sl
set_option linter.unusedVariables false
set_option linter.unusedSimpArgs false
set_option maxHeartbeats 1000000
theorem actOf_ok {W : LogS} {D : DiskS} (hD : D.Ok) (a : Act) : (actOf W D a).2.2.Ok := by
  unfold actOf
  split
  · unfold LogS.reset
    split <;> exact layD_ok hD _ _ _ _
  · unfold LogS.save
    split
    · exact hD
    split
    · exact hD
    split <;> exact layD_ok hD _ _ _ _
theorem Lays.fuse {S : List Seg} {D : DiskS} {G : GL} (h : Lays S D.unf G) : Lays S D G :=
  { segs := h.segs, cont := h.cont, good := h.good, head := h.head, tops := h.tops, size := h.size, inc := h.inc, rng := h.rng }
theorem act_alive {W : LogS} {D : DiskS} {n : Nat} {G : GL} (hW : Live W D.unf n) (hK : Kept W D.unf G) (hs : Safe D.files) (hd : D.dead = false) (hok : D.Ok) (hm : D.most = 100000) {a : Act} (ha : a.In) (hdl : a.data.length ≤ 700) :
    ((actOf W D a).1 ≠ 7 ∧ Live (actOf W D a).2.1 (actOf W D a).2.2.unf (n + 5) ∧ (∃ G', Kept (actOf W D a).2.1 (actOf W D a).2.2.unf G') ∧ Safe (actOf W D a).2.2.files ∧ (actOf W D a).2.2.dead = false ∧ (actOf W D a).2.2.most = 100000) ∨
    ((actOf W D a).1 = 7 ∧ (actOf W D a).2.2.most = 100000 ∧ ∃ S rs, Left (actOf W D a).2.2 (W.hard, W.ents) rs ∧ (pickI a.op 10 = 6 → rs = toldR S W.hard false [.reset]) ∧ (pickI a.op 10 ≠ 6 → rs = toldR S (hardOf a) (decide (hardOf a ≠ W.hard)) ((entriesOf a).map Rec.ent) ∧ ∀ e ∈ entriesOf a, 0 < e.index)) := by
  have hok' := actOf_ok (W := W) hok a
  have hKL := hK.lays.fuse
  by_cases h6 : pickI a.op 10 = 6
  · have e : ∀ D, actOf W D a = W.reset D := fun D => if_pos h6
    rw [e] at hok' ⊢
    rcases reset_fuse (W := W) hd hs with ⟨b1, b2, b3, b4, b5, b6⟩ | ⟨b1, b2, b3⟩
    · left
      have h1 := reset_any hW
      have h2 := reset_kept hW hK
      rw [← b3, ← b4] at h1 h2
      exact ⟨b2, { h1.1 with len := by have := h1.1.len; omega }, h2, b6, b5, h1.2.trans hm⟩
    · right
      have hmm : (W.reset D).2.2.most = 100000 := b3.2.1.trans hm
      refine ⟨b1, hmm, W.segs, toldR W.segs W.hard false [.reset], ?_, fun _ => rfl, fun h => absurd h6 h⟩
      have hgood : ∀ r ∈ toldR W.segs W.hard false [Rec.reset], r.Good := toldR_good ⟨hW.hin, hW.h0⟩ fun r hr => by rw [List.mem_singleton.1 hr]; trivial
      have eT : layT W.segs W.hard false [resetText] = bytesOf (toldR W.segs W.hard false [Rec.reset]) := layT_bytes W.segs W.hard false [Rec.reset]
      rw [eT] at b3
      rw [← hK.fold]
      exact left_died hd hKL hW.sd.ne (.inl rfl) hs hok hgood b3 hok' (by omega)
  · have e : ∀ D, actOf W D a = W.save D (hardOf a) (entriesOf a) := fun D => if_neg h6
    rw [e] at hok' ⊢
    have hin := fun e he => entriesOf_in ha e he
    rcases save_fuse (W := W) hd hs (hardOf a) (entriesOf a) with ⟨b1, b2, b3, b4, b5, b6⟩ | ⟨b1, b0, b2, b3⟩
    · left
      have h1 := save_any hW (hardOf a) (hardOf_in ha) (entriesOf a) fun e he => ⟨(hin e he).1, (hin e he).2.1⟩
      have h2 := save_kept hW hK (hardOf a) (hardOf_in ha) (entriesOf a) fun e he => ⟨(hin e he).1, by rw [(hin e he).2.2]; omega⟩
      rw [← b3, ← b4] at h1 h2
      have hl := entriesOf_len a
      exact ⟨b2, { h1.1 with len := by have := h1.1.len; omega }, h2, b6, b5, h1.2.trans hm⟩
    · right
      have hmm : (W.save D (hardOf a) (entriesOf a)).2.2.most = 100000 := b3.2.1.trans hm
      simp only [not_or] at b0
      have hr : ∀ e ∈ entriesOf a, e.right = true := by
        have := b0.2.2
        rw [Bool.not_eq_true, List.any_eq_false] at this
        intro e he
        have := this e he
        simpa using this
      refine ⟨b1, hmm, begun W.segs, toldR (begun W.segs) (hardOf a) (decide (hardOf a ≠ W.hard)) ((entriesOf a).map Rec.ent), ?_, fun h => absurd h h6, fun _ => ⟨rfl, fun e he => ?_⟩⟩
      · have hgood : ∀ r ∈ toldR (begun W.segs) (hardOf a) (decide (hardOf a ≠ W.hard)) ((entriesOf a).map Rec.ent), r.Good := toldR_good ⟨hardOf_in ha, by omega, by omega⟩ fun r hx => by
          obtain ⟨e, he, rfl⟩ := List.mem_map.1 hx
          exact ⟨(hin e he).1, hr e he, by rw [(hin e he).2.2]; omega⟩
        have hbg : begun W.segs = W.segs ∨ (begun W.segs = next W.segs ∧ (lastS W.segs).number < 99) := by
          have := hW.sd.num_le _ (lastS_mem hW.sd.ne)
          rcases begun_how W.segs with h | h
          · exact .inl h
          · exact .inr ⟨h.1, by omega⟩
        rw [← texts_ents, layT_bytes] at b3
        rw [← hK.fold]
        exact left_died hd hKL hW.sd.ne hbg hs hok hgood b3 hok' (by omega)
      · have := hr e he
        simp only [Ent.right, Bool.and_eq_true, decide_eq_true_eq] at this
        exact this.1.1.1
/-- What the law asks of what is read. -/
def Fin (h : Hrd) (was : List Ent) (next : Hrd) (now : List Ent) (reset died : Bool) (x : Hrd × List Ent) : Prop :=
  x = (h, was) ∨ (died = true ∧ (x.1 = h ∨ x.1 = next) ∧ ((reset = true ∧ x.2 = []) ∨ (reset = false ∧ ∃ j, j ≤ now.length ∧ x.2 = (now.take j).foldl putE was)))
theorem foldl_len : ∀ (l : List Ent) (E : List Ent), (l.foldl putE E).length ≤ E.length + l.length
  | [], E => Nat.le_refl _
  | e :: l, E => by
    have h1 := foldl_len l (putE E e)
    have h2 := putE_len E e
    rw [List.foldl_cons]; simp only [List.length_cons]; omega
theorem Fin.len {h : Hrd} {was : List Ent} {next : Hrd} {now : List Ent} {reset died : Bool} {x : Hrd × List Ent} (hf : Fin h was next now reset died x) : x.2.length ≤ was.length + now.length := by
  rcases hf with rfl | ⟨_, _, ⟨_, h⟩ | ⟨_, j, hj, h⟩⟩
  · exact Nat.le_add_right _ _
  · rw [h]; exact Nat.zero_le _
  · rw [h]
    have h1 := foldl_len (now.take j) was
    rw [List.length_take] at h1
    omega
/-- What the rounds of the law keep. -/
structure Rnd (l i : Nat) (W : LogS) (D : DiskS) (h : Hrd) (was : List Ent) (next : Hrd) (now : List Ent) (reset died : Bool) : Prop where
  il : i ≤ l
  ok : D.Ok
  most : D.most = 100000
  wl : was.length ≤ 5 * i
  wr : Rise was
  nl : now.length ≤ 5
  ni : died = true → reset = false → ∀ e ∈ now, e.In ∧ 0 < e.index
  how : (died = false ∧ h = W.hard ∧ was = W.ents ∧ Live W D.unf (5 * i) ∧ (∃ G, Kept W D.unf G) ∧ Safe D.files ∧ D.dead = false) ∨
    (died = true ∧ ∃ S rs, Left D (h, was) rs ∧ (reset = true → rs = toldR S h false [.reset]) ∧ (reset = false → rs = toldR S next (decide (next ≠ h)) (now.map Rec.ent)))
theorem Rnd.fin {l i : Nat} {W : LogS} {D : DiskS} {h : Hrd} {was : List Ent} {next : Hrd} {now : List Ent} {reset died : Bool} (r : Rnd l i W D h was next now reset died) (kp nz : List Int) :
    ∃ (A : GL) (q : Seg) (R : List Rec) (u : List UInt8), Torn (D.crash kp nz) A q R u ∧ Fin h was next now reset died (foldOf (A ++ [(q, R)])) := by
  rcases r.how with ⟨h1, h2, h3, h4, ⟨G, h5⟩, h6, h7⟩ | ⟨h1, S, rs, h2, h3, h4⟩
  · have hL := left_still (E := D) h7 h5.lays.fuse h4.sd.ne h6 rfl r.ok (by have := r.most; omega) []
    obtain ⟨A, q, R, u, k, k1, k2, k3⟩ := hL.left kp nz
    refine ⟨A, q, R, u, k2, .inl ?_⟩
    rw [k3, h5.fold, h2, h3]; simp
  · obtain ⟨A, q, R, u, k, k1, k2, k3⟩ := h2.left kp nz
    refine ⟨A, q, R, u, k2, ?_⟩
    cases hreset : reset with
    | true =>
      rw [h3 hreset] at k3
      rcases begin_reset S h was k k3 with h | ⟨ha, hb⟩
      · exact .inl h
      · exact .inr ⟨h1, .inl ha, .inl ⟨rfl, hb⟩⟩
    | false =>
      rw [h4 hreset] at k3
      rcases begin_save S next h was now k k3 with h | ⟨ha, hb⟩
      · exact .inl h
      · exact .inr ⟨h1, ha, .inr ⟨rfl, hb⟩⟩
/-- All that a log begun has laid down is safe. -/
theorem fresh_safe {most : Int} (h0 : 100 ≤ most) (h1 : most ≤ 10000000) : Safe (disk0 most).files := by
  have hE := (open_live h0 h1).1
  rcases lay_fuse (D := DiskS.new most) rfl [⟨1, 0, 0⟩] ⟨0, 0⟩ true [] with ⟨a, _⟩ | ⟨_, a, _⟩ | ⟨_, _, _, _, _, a⟩
  · exact absurd hE a
  · rw [hE] at a; exact absurd a (by decide)
  · unfold disk0
    rw [a]
    exact Safe.aput (fun p hp => by cases hp) _ _
section
attribute [local irreducible] J JR JS RO CR Arr Sat Tr sat blk
set_option maxHeartbeats 2000000
set_option maxRecDepth 4000
theorem openS_tr (d m : Nat) (most : Int) (h0 : 100 ≤ most) (h1 : most ≤ 10000000) :
    Tr Tryz.prog 26 [.pointer (some ⟨d, 0, none⟩)] [blk d (dcell m (DiskS.new most)), mp fmap m (DiskS.new most).files]
      fun v Γ => ∃ (w : Nat) (sv : Value) (W : LogS) (D : DiskS), (v = .tuple #[.pointer (some ⟨w, 0, none⟩), .int .i64 0] ∧ Fresh W D most ∧ (∃ G, Kept W D G) ∧ Safe D.files) ∧ Γ = [blk w (lcell d W.hard (.slice none 0 0) sv), sl 70 entE (.slice none 0 0) W.ents, sl 94 segE sv W.segs, blk d (dcell m D), mp fmap m D.files] :=
  (open0_tr d m (DiskS.new most) (DiskS.Ok.new (by omega) h1) rfl).post fun v Γ h B F w hS => by
    rcases h with ⟨h, _⟩ | ⟨h, w, sv, hv, hG⟩
    · exact absurd (open_live h0 h1).1 h
    · exact ⟨Γ, ⟨w, sv, log0 most, disk0 most, ⟨hv, fresh h0 h1, fresh_kept h0 h1, fresh_safe h0 h1⟩, hG⟩, hS⟩
theorem beginS_tr (most : Int) (h0 : 100 ≤ most) (h1 : most ≤ 1000000) :
    Tr Tryz.prog 10 [.int .i64 most] []
      fun v Γ => ∃ (b w d m : Nat) (p : Option Addr) (sv : Value) (W : LogS) (D : DiskS), (v = .tuple #[.pointer (some ⟨b, 0, none⟩), .pointer p, .bool true] ∧ Fresh W D most ∧ (∃ G, Kept W D G) ∧ Safe D.files) ∧ Γ = [blk b (wcell d w), blk w (lcell d W.hard (.slice none 0 0) sv), sl 70 entE (.slice none 0 0) W.ents, sl 94 segE sv W.segs, blk d (dcell m D), mp fmap m D.files] := by
  refine Tr_of_J Tryz.func10 follows rfl Tryz.ntmps10 (by simp) fun B F => ?_
  repeat' (first | (refine cle rfl (new_tr most (by omega) (by omega)) ?_; rintro v Γ' ⟨d, m, rfl, rfl⟩; refine n2 ?_) | (refine cle rfl (rnew_tr most) ?_; rintro v Γ' ⟨r, q, rfl, rfl⟩; refine n1 ?_) | (refine cle rfl (openS_tr d m most h0 (by omega)) ?_; rintro v Γ' ⟨w, sv, W, D, ⟨rfl, hF⟩, rfl⟩; refine n5 ?_) | (refine cle rfl (ropen0_tr r most) ?_; rintro v Γ' ⟨p, e, rfl, rfl⟩; refine n0 ?_) | refine mv ?_ | refine asn ?_ | refine jn ?_ | refine nl ?_ | refine xt2 ?_ | refine sq ?_ | refine rg ?_ | refine eql ?_ | refine pen ?_ | refine pnn ?_ | refine p1 ?_ | refine p0 ?_ | refine sk2 ?_ | refine kp ?_ | refine ct ?_ | refine cf ?_ | (refine cd (fun hc => ?_) (fun hc => ?_) <;> try (exfalso; omega)) | (refine cn (fun hc => ?_) (fun hc => ?_) <;> try (exfalso; omega)) | refine bl ?_ | refine ib ?_ | refine xt ?_ | refine bx (fun b_ => ?_) | refine bld ?_ | refine seq ?_ | refine af_ ?_ | (refine gd (fun hc => ?_) (fun hc => ?_) <;> try (exfalso; omega)) | (refine gn (fun hc => ?_) (fun hc => ?_) <;> try (exfalso; omega)) | refine pes ?_ | refine pns ?_ | refine aeq ?_ | refine cb (fun hc => ?_) (fun hc => ?_) | refine gs (fun hc => ?_) (fun hc => ?_) | fail)
  all_goals first
    | (refine rt ?_
       exact ⟨_, ⟨_, _, _, _, _, _, _, _, ⟨rfl, hF⟩, rfl⟩, _, by repeat constructor⟩)
    | skip
end
end Go.Proofs.YtaeefjcbmkiiaaaGreatDoor
/- The law WalKeeps: what the law asks of what is read, walked. -/
namespace Go.Proofs.YtaeefjcbmkiiaaaGreatDoor
open Go Sl
attribute [local irreducible] J JR JS RO CR Arr Sat Tr sat blk
set_option linter.unusedVariables false
set_option linter.unusedSimpArgs false
set_option maxHeartbeats 4000000
set_option maxRecDepth 4000
abbrev hcell (h : Hrd) : Obj := .cells ⟨[.int .i64 h.term, .int .i64 h.vote]⟩ 50 (0, 0)
/-- The code behind the first part of a code. -/
def rest : Nat → Code → Code
  | 0, c => c
  | n + 1, .seq _ b => rest n b
  | _ + 1, c => c
theorem J_code {c : Ctx} {x y : Code} {k : List Item} {st : St} {Γ : List Assn} (h : J c (.code y :: k) st Γ) (e : x = y) : J c (.code x :: k) st Γ := by rw [e]; exact h
theorem keeps_end (B : World) (F : Assn) (d b1 b2 x : Nat) (ev3 sv3 wv nv2 : Value) (h next xh : Hrd) (was now xe : List Ent) (reset died : Bool) (t2 : Fin h was next now reset died (xh, xe)) (hwl : was.length ≤ 200) (hnl : now.length ≤ 5) (hwr : Rise was) (hni2 : died = true → reset = false → ∀ e ∈ now, e.In ∧ 0 < e.index) {K : Code} (hK : K = rest 18 (Tryz.f4.body.getD .skip)) :
    J ⟨Tryz.prog, B, F, 4, 202, Tryz.f4, fun v Γ => v = .bool true ∧ Γ = [], Tryz.func4, follows⟩ [.code K] [(16, .pointer (some ⟨b1, 0, none⟩)), (17, wv), (18, nv2), (19, .pointer (some ⟨b2, 0, none⟩)), (20, .bool reset), (21, .bool died), (24, .pointer (some ⟨x, 0, none⟩)), (25, .int .i64 0)]
      [blk x (lcell d xh ev3 sv3), sl 70 entE ev3 xe, blk b1 (hcell h), blk b2 (hcell next), sl 70 entE wv was, sl 70 entE nv2 now] := by
  have hxl := t2.len
  dsimp only at hxl
  have hxl2 : xe.length ≤ 1000000 := by omega
  have hb : reset = false → ∃ j, j ≤ now.length ∧ xe = (now.take j).foldl putE was := fun h => by
    rcases t2 with h1 | ⟨_, _, ⟨h1, _⟩ | ⟨_, h1⟩⟩
    · exact ⟨0, Nat.zero_le _, (congrArg Prod.snd h1)⟩
    · rw [h] at h1; cases h1
    · exact h1
  have h0 : Tryz.f4.body = some (.seq _ (.seq _ (.seq _ (.seq _ (.seq _ (.seq _ (.seq _ (.seq _ (.seq _ (.seq _ (.seq _ (.seq _ (.seq _ (.seq _ (.seq _ (.seq _ (.seq _ (.seq _ _)))))))))))))))))) := rfl
  refine J_code ?_ (hK.trans (by rw [h0]))
  clear h0 hK
  cases died
  · repeat' (first | refine sku ?_ | (refine cle rfl (hard_tr x d xh ev3 sv3) ?_; rintro v Γ' ⟨rfl, rfl⟩; refine n1 ?_) | (refine cle rfl (entries_tr x d xh ev3 sv3 xe hxl2) ?_; rintro v14 Γ' rfl; refine n3 ?_) | (refine cle rfl (sameEntries_tr v14 wv xe was hxl2 (by omega)) ?_; rintro v Γ' ⟨rfl, rfl⟩; refine n2 ?_) | (refine cle rfl (begun_tr v14 wv nv2 xe was now (by omega) (by omega) (by omega) hwr (hni2 rfl rfl) (hb rfl).choose (hb rfl).choose_spec.1 (hb rfl).choose_spec.2) ?_; rintro v Γ' ⟨rfl, rfl⟩; refine n0 ?_) | refine mv ?_ | refine asn ?_ | refine jn ?_ | refine nl ?_ | refine ld rfl ?_ | refine nc ?_ | refine f0 ?_ | refine xt2 ?_ | refine sq ?_ | refine rg ?_ | refine lnb ?_ | refine lls rfl ?_ | refine ad ?_ | refine lss ?_ | refine eql ?_ | refine neq ?_ | refine gtr ?_ | refine geq ?_ | refine nt ?_ | refine pen ?_ | refine p1 ?_ | refine p0 ?_ | refine sk2 ?_ | refine kp ?_ | refine ct ?_ | refine cf ?_ | (refine cd (fun hc => ?_) (fun hc => ?_) <;> try (exfalso; omega)) | (refine cn (fun hc => ?_) (fun hc => ?_) <;> try (exfalso; omega)) | refine bl ?_ | refine ib ?_ | refine xt ?_ | refine al (fun b_ => ?_) | refine sr rfl ?_ | refine la rfl ?_ | refine ixa rfl rfl ?_ | refine fe ?_ | refine lde rfl ?_ | refine lae rfl ?_ | refine fa ?_ | refine seq ?_ | refine sne ?_ | refine cc ?_ | refine af_ ?_ | (refine gd (fun hc => ?_) (fun hc => ?_) <;> try (exfalso; omega)) | (refine gn (fun hc => ?_) (fun hc => ?_) <;> try (exfalso; omega)) | refine aw ?_ | refine pes ?_ | refine aeq ?_ | refine ane ?_ | refine cb (fun hc => ?_) (fun hc => ?_) | refine gs (fun hc => ?_) (fun hc => ?_) | refine J_draw (id := 8) [(0, true, []), (1, true, []), (2, true, []), (3, true, []), (4, true, []), (5, false, [0, 1, 2, 3]), (6, false, [])] (by kernel_rfl) ?_ | refine J_draw (id := 31) [(0, true, []), (1, true, []), (2, true, []), (3, true, []), (4, true, []), (5, false, [0, 1, 2, 3]), (6, false, [])] (by kernel_rfl) ?_ | refine J_draw (id := 38) [(0, true, []), (2, true, []), (1, false, [2]), (3, true, []), (4, true, []), (5, true, []), (7, true, []), (6, false, [7]), (8, false, []), (9, true, [])] (by kernel_rfl) ?_ | refine J_draw (id := 40) [(0, true, []), (1, true, []), (2, true, []), (3, true, []), (5, true, []), (4, false, [5]), (6, true, []), (7, true, []), (8, true, []), (10, true, []), (9, false, [10]), (11, true, []), (12, true, []), (13, true, [])] (by kernel_rfl) ?_ | refine JS_cons rfl rfl (RO_move rfl) ?_ | refine JS_cons rfl rfl (RO_nilCheck rfl) ?_ | refine JS_cons rfl rfl (RO_fieldAddr0 rfl) ?_ | refine JS_cons rfl rfl (RO_load rfl (by rfl)) ?_ | refine JS_off rfl ?_ | refine JS_cons rfl rfl (RO_extract rfl rfl) ?_ | refine JS_cons rfl rfl (RO_not rfl) ?_ | refine JS_cons rfl rfl (RO_fieldAddr rfl) ?_ | refine JS_cons rfl rfl (RO_lnb rfl) ?_ | refine JS_cons rfl rfl (RO_lls rfl) ?_ | refine JS_cons rfl rfl (RO_add_in rfl rfl (by omega)) ?_ | refine JS_cons rfl rfl (RO_ixa rfl rfl (by omega)) ?_ | refine JS_cons rfl rfl (RO_fe rfl) ?_ | refine JS_cons rfl rfl (RO_lde rfl (by omega) rfl) ?_ | refine JS_offu rfl ?_ | refine JS_cons rfl rfl (RO_cc rfl rfl (by omega)) ?_ | refine JS_cons rfl rfl (RO_lae rfl (by omega) (by repeat constructor)) ?_ | refine JS_cons rfl rfl (RO_loadAgg rfl (by repeat constructor)) ?_ | fail)
    all_goals first
      | (refine rt ?_
         exact ⟨_, ⟨rfl, rfl⟩, _, by repeat constructor⟩)
      | (have hno : ¬ (xh = h ∧ xe = was) := by
           first
             | (have g : ¬ xe = was := by assumption
                exact fun hh => g hh.2)
             | (have g : eqCells [.int .i64 xh.term, .int .i64 xh.vote] [.int .i64 h.term, .int .i64 h.vote] = false := by assumption
                rw [eqH] at g
                exact fun hh => of_decide_eq_false g hh.1)
         have t2' := t2.resolve_left fun e => hno ⟨congrArg Prod.fst e, congrArg Prod.snd e⟩
         first
           | exact absurd t2'.1 Bool.false_ne_true
           | (have g3 : (!eqCells [.int .i64 xh.term, .int .i64 xh.vote] [.int .i64 h.term, .int .i64 h.vote]) = true := by assumption
              have g4 : (!eqCells [.int .i64 xh.term, .int .i64 xh.vote] [.int .i64 next.term, .int .i64 next.vote]) = true := by assumption
              rw [eqH, Bool.not_eq_true'] at g3 g4
              rcases t2'.2.1 with hh | hh
              · exact absurd hh (of_decide_eq_false g3)
              · exact absurd hh (of_decide_eq_false g4))
           | (have hxe : xe = [] := by
                rcases t2'.2.2 with ⟨_, hh⟩ | ⟨hh, _⟩
                · exact hh
                · cases hh
              rw [show decide ((xe.length : Int) = 0) = true from by rw [hxe]; rfl]
              refine rt ?_
              exact ⟨_, ⟨rfl, rfl⟩, _, by repeat constructor⟩))
  · cases reset
    · repeat' (first | refine sku ?_ | (refine cle rfl (hard_tr x d xh ev3 sv3) ?_; rintro v Γ' ⟨rfl, rfl⟩; refine n1 ?_) | (refine cle rfl (entries_tr x d xh ev3 sv3 xe hxl2) ?_; rintro v14 Γ' rfl; refine n3 ?_) | (refine cle rfl (sameEntries_tr v14 wv xe was hxl2 (by omega)) ?_; rintro v Γ' ⟨rfl, rfl⟩; refine n2 ?_) | (refine cle rfl (begun_tr v14 wv nv2 xe was now (by omega) (by omega) (by omega) hwr (hni2 rfl rfl) (hb rfl).choose (hb rfl).choose_spec.1 (hb rfl).choose_spec.2) ?_; rintro v Γ' ⟨rfl, rfl⟩; refine n0 ?_) | refine mv ?_ | refine asn ?_ | refine jn ?_ | refine nl ?_ | refine ld rfl ?_ | refine nc ?_ | refine f0 ?_ | refine xt2 ?_ | refine sq ?_ | refine rg ?_ | refine lnb ?_ | refine lls rfl ?_ | refine ad ?_ | refine lss ?_ | refine eql ?_ | refine neq ?_ | refine gtr ?_ | refine geq ?_ | refine nt ?_ | refine pen ?_ | refine p1 ?_ | refine p0 ?_ | refine sk2 ?_ | refine kp ?_ | refine ct ?_ | refine cf ?_ | (refine cd (fun hc => ?_) (fun hc => ?_) <;> try (exfalso; omega)) | (refine cn (fun hc => ?_) (fun hc => ?_) <;> try (exfalso; omega)) | refine bl ?_ | refine ib ?_ | refine xt ?_ | refine al (fun b_ => ?_) | refine sr rfl ?_ | refine la rfl ?_ | refine ixa rfl rfl ?_ | refine fe ?_ | refine lde rfl ?_ | refine lae rfl ?_ | refine fa ?_ | refine seq ?_ | refine sne ?_ | refine cc ?_ | refine af_ ?_ | (refine gd (fun hc => ?_) (fun hc => ?_) <;> try (exfalso; omega)) | (refine gn (fun hc => ?_) (fun hc => ?_) <;> try (exfalso; omega)) | refine aw ?_ | refine pes ?_ | refine aeq ?_ | refine ane ?_ | refine cb (fun hc => ?_) (fun hc => ?_) | refine gs (fun hc => ?_) (fun hc => ?_) | refine J_draw (id := 8) [(0, true, []), (1, true, []), (2, true, []), (3, true, []), (4, true, []), (5, false, [0, 1, 2, 3]), (6, false, [])] (by kernel_rfl) ?_ | refine J_draw (id := 31) [(0, true, []), (1, true, []), (2, true, []), (3, true, []), (4, true, []), (5, false, [0, 1, 2, 3]), (6, false, [])] (by kernel_rfl) ?_ | refine J_draw (id := 38) [(0, true, []), (2, true, []), (1, false, [2]), (3, true, []), (4, true, []), (5, true, []), (7, true, []), (6, false, [7]), (8, false, []), (9, true, [])] (by kernel_rfl) ?_ | refine J_draw (id := 40) [(0, true, []), (1, true, []), (2, true, []), (3, true, []), (5, true, []), (4, false, [5]), (6, true, []), (7, true, []), (8, true, []), (10, true, []), (9, false, [10]), (11, true, []), (12, true, []), (13, true, [])] (by kernel_rfl) ?_ | refine JS_cons rfl rfl (RO_move rfl) ?_ | refine JS_cons rfl rfl (RO_nilCheck rfl) ?_ | refine JS_cons rfl rfl (RO_fieldAddr0 rfl) ?_ | refine JS_cons rfl rfl (RO_load rfl (by rfl)) ?_ | refine JS_off rfl ?_ | refine JS_cons rfl rfl (RO_extract rfl rfl) ?_ | refine JS_cons rfl rfl (RO_not rfl) ?_ | refine JS_cons rfl rfl (RO_fieldAddr rfl) ?_ | refine JS_cons rfl rfl (RO_lnb rfl) ?_ | refine JS_cons rfl rfl (RO_lls rfl) ?_ | refine JS_cons rfl rfl (RO_add_in rfl rfl (by omega)) ?_ | refine JS_cons rfl rfl (RO_ixa rfl rfl (by omega)) ?_ | refine JS_cons rfl rfl (RO_fe rfl) ?_ | refine JS_cons rfl rfl (RO_lde rfl (by omega) rfl) ?_ | refine JS_offu rfl ?_ | refine JS_cons rfl rfl (RO_cc rfl rfl (by omega)) ?_ | refine JS_cons rfl rfl (RO_lae rfl (by omega) (by repeat constructor)) ?_ | refine JS_cons rfl rfl (RO_loadAgg rfl (by repeat constructor)) ?_ | fail)
      all_goals first
        | (refine rt ?_
           exact ⟨_, ⟨rfl, rfl⟩, _, by repeat constructor⟩)
        | (have hno : ¬ (xh = h ∧ xe = was) := by
             first
               | (have g : ¬ xe = was := by assumption
                  exact fun hh => g hh.2)
               | (have g : eqCells [.int .i64 xh.term, .int .i64 xh.vote] [.int .i64 h.term, .int .i64 h.vote] = false := by assumption
                  rw [eqH] at g
                  exact fun hh => of_decide_eq_false g hh.1)
           have t2' := t2.resolve_left fun e => hno ⟨congrArg Prod.fst e, congrArg Prod.snd e⟩
           first
             | exact absurd t2'.1 Bool.false_ne_true
             | (have g3 : (!eqCells [.int .i64 xh.term, .int .i64 xh.vote] [.int .i64 h.term, .int .i64 h.vote]) = true := by assumption
                have g4 : (!eqCells [.int .i64 xh.term, .int .i64 xh.vote] [.int .i64 next.term, .int .i64 next.vote]) = true := by assumption
                rw [eqH, Bool.not_eq_true'] at g3 g4
                rcases t2'.2.1 with hh | hh
                · exact absurd hh (of_decide_eq_false g3)
                · exact absurd hh (of_decide_eq_false g4))
             | (have hxe : xe = [] := by
                  rcases t2'.2.2 with ⟨_, hh⟩ | ⟨hh, _⟩
                  · exact hh
                  · cases hh
                rw [show decide ((xe.length : Int) = 0) = true from by rw [hxe]; rfl]
                refine rt ?_
                exact ⟨_, ⟨rfl, rfl⟩, _, by repeat constructor⟩))
    · repeat' (first | refine sku ?_ | (refine cle rfl (hard_tr x d xh ev3 sv3) ?_; rintro v Γ' ⟨rfl, rfl⟩; refine n1 ?_) | (refine cle rfl (entries_tr x d xh ev3 sv3 xe hxl2) ?_; rintro v14 Γ' rfl; refine n3 ?_) | (refine cle rfl (sameEntries_tr v14 wv xe was hxl2 (by omega)) ?_; rintro v Γ' ⟨rfl, rfl⟩; refine n2 ?_) | (refine cle rfl (begun_tr v14 wv nv2 xe was now (by omega) (by omega) (by omega) hwr (hni2 rfl rfl) (hb rfl).choose (hb rfl).choose_spec.1 (hb rfl).choose_spec.2) ?_; rintro v Γ' ⟨rfl, rfl⟩; refine n0 ?_) | refine mv ?_ | refine asn ?_ | refine jn ?_ | refine nl ?_ | refine ld rfl ?_ | refine nc ?_ | refine f0 ?_ | refine xt2 ?_ | refine sq ?_ | refine rg ?_ | refine lnb ?_ | refine lls rfl ?_ | refine ad ?_ | refine lss ?_ | refine eql ?_ | refine neq ?_ | refine gtr ?_ | refine geq ?_ | refine nt ?_ | refine pen ?_ | refine p1 ?_ | refine p0 ?_ | refine sk2 ?_ | refine kp ?_ | refine ct ?_ | refine cf ?_ | (refine cd (fun hc => ?_) (fun hc => ?_) <;> try (exfalso; omega)) | (refine cn (fun hc => ?_) (fun hc => ?_) <;> try (exfalso; omega)) | refine bl ?_ | refine ib ?_ | refine xt ?_ | refine al (fun b_ => ?_) | refine sr rfl ?_ | refine la rfl ?_ | refine ixa rfl rfl ?_ | refine fe ?_ | refine lde rfl ?_ | refine lae rfl ?_ | refine fa ?_ | refine seq ?_ | refine sne ?_ | refine cc ?_ | refine af_ ?_ | (refine gd (fun hc => ?_) (fun hc => ?_) <;> try (exfalso; omega)) | (refine gn (fun hc => ?_) (fun hc => ?_) <;> try (exfalso; omega)) | refine aw ?_ | refine pes ?_ | refine aeq ?_ | refine ane ?_ | refine cb (fun hc => ?_) (fun hc => ?_) | refine gs (fun hc => ?_) (fun hc => ?_) | refine J_draw (id := 8) [(0, true, []), (1, true, []), (2, true, []), (3, true, []), (4, true, []), (5, false, [0, 1, 2, 3]), (6, false, [])] (by kernel_rfl) ?_ | refine J_draw (id := 31) [(0, true, []), (1, true, []), (2, true, []), (3, true, []), (4, true, []), (5, false, [0, 1, 2, 3]), (6, false, [])] (by kernel_rfl) ?_ | refine J_draw (id := 38) [(0, true, []), (2, true, []), (1, false, [2]), (3, true, []), (4, true, []), (5, true, []), (7, true, []), (6, false, [7]), (8, false, []), (9, true, [])] (by kernel_rfl) ?_ | refine J_draw (id := 40) [(0, true, []), (1, true, []), (2, true, []), (3, true, []), (5, true, []), (4, false, [5]), (6, true, []), (7, true, []), (8, true, []), (10, true, []), (9, false, [10]), (11, true, []), (12, true, []), (13, true, [])] (by kernel_rfl) ?_ | refine JS_cons rfl rfl (RO_move rfl) ?_ | refine JS_cons rfl rfl (RO_nilCheck rfl) ?_ | refine JS_cons rfl rfl (RO_fieldAddr0 rfl) ?_ | refine JS_cons rfl rfl (RO_load rfl (by rfl)) ?_ | refine JS_off rfl ?_ | refine JS_cons rfl rfl (RO_extract rfl rfl) ?_ | refine JS_cons rfl rfl (RO_not rfl) ?_ | refine JS_cons rfl rfl (RO_fieldAddr rfl) ?_ | refine JS_cons rfl rfl (RO_lnb rfl) ?_ | refine JS_cons rfl rfl (RO_lls rfl) ?_ | refine JS_cons rfl rfl (RO_add_in rfl rfl (by omega)) ?_ | refine JS_cons rfl rfl (RO_ixa rfl rfl (by omega)) ?_ | refine JS_cons rfl rfl (RO_fe rfl) ?_ | refine JS_cons rfl rfl (RO_lde rfl (by omega) rfl) ?_ | refine JS_offu rfl ?_ | refine JS_cons rfl rfl (RO_cc rfl rfl (by omega)) ?_ | refine JS_cons rfl rfl (RO_lae rfl (by omega) (by repeat constructor)) ?_ | refine JS_cons rfl rfl (RO_loadAgg rfl (by repeat constructor)) ?_ | fail)
      all_goals first
        | (refine rt ?_
           exact ⟨_, ⟨rfl, rfl⟩, _, by repeat constructor⟩)
        | (have hno : ¬ (xh = h ∧ xe = was) := by
             first
               | (have g : ¬ xe = was := by assumption
                  exact fun hh => g hh.2)
               | (have g : eqCells [.int .i64 xh.term, .int .i64 xh.vote] [.int .i64 h.term, .int .i64 h.vote] = false := by assumption
                  rw [eqH] at g
                  exact fun hh => of_decide_eq_false g hh.1)
           have t2' := t2.resolve_left fun e => hno ⟨congrArg Prod.fst e, congrArg Prod.snd e⟩
           first
             | exact absurd t2'.1 Bool.false_ne_true
             | (have g3 : (!eqCells [.int .i64 xh.term, .int .i64 xh.vote] [.int .i64 h.term, .int .i64 h.vote]) = true := by assumption
                have g4 : (!eqCells [.int .i64 xh.term, .int .i64 xh.vote] [.int .i64 next.term, .int .i64 next.vote]) = true := by assumption
                rw [eqH, Bool.not_eq_true'] at g3 g4
                rcases t2'.2.1 with hh | hh
                · exact absurd hh (of_decide_eq_false g3)
                · exact absurd hh (of_decide_eq_false g4))
             | (have hxe : xe = [] := by
                  rcases t2'.2.2 with ⟨_, hh⟩ | ⟨hh, _⟩
                  · exact hh
                  · cases hh
                rw [show decide ((xe.length : Int) = 0) = true from by rw [hxe]; rfl]
                refine rt ?_
                exact ⟨_, ⟨rfl, rfl⟩, _, by repeat constructor⟩))
end Go.Proofs.YtaeefjcbmkiiaaaGreatDoor
/- The law WalKeeps, walked: what is read behind a crash. -/
namespace Go.Proofs.YtaeefjcbmkiiaaaGreatDoor
open Go Sl
attribute [local irreducible] J JR JS RO CR Arr Sat Tr sat blk
set_option linter.unusedVariables false
set_option linter.unusedSimpArgs false
set_option maxHeartbeats 4000000
set_option maxRecDepth 4000
/-- Opened behind a crash: what is read. -/
theorem openX_tr (d m : Nat) {D : DiskS} {A : GL} {q : Seg} {R : List Rec} {u : List UInt8} (h : Torn D A q R u) (hm : D.most ≤ 100000) {xh : Hrd} {xe : List Ent} (h0 : (openGo (segNums D) ⟨⟨0, 0⟩, [], []⟩ D).1 = 0) (hx : ((openGo (segNums D) ⟨⟨0, 0⟩, [], []⟩ D).2.1.hard, (openGo (segNums D) ⟨⟨0, 0⟩, [], []⟩ D).2.1.ents) = (xh, xe)) :
    Tr Tryz.prog 26 [.pointer (some ⟨d, 0, none⟩)] [blk d (dcell m D), mp fmap m D.files]
      fun v Γ => ∃ x ev sv S E, v = .tuple #[.pointer (some ⟨x, 0, none⟩), .int .i64 0] ∧ Γ = [blk x (lcell d xh ev sv), sl 70 entE ev xe, sl 94 segE sv S, blk d (dcell m E), mp fmap m E.files] := by
  refine (open_tr d m D h.ok h.named h.ne hm).post fun v Γ ⟨x, ev, sv, hv, hG⟩ B F w hS => ?_
  simp only [Prod.mk.injEq] at hx
  rw [h0, if_pos rfl] at hv
  rw [hx.1, hx.2] at hG
  exact ⟨Γ, ⟨x, ev, sv, _, _, hv, hG⟩, hS⟩
/-- The power went again. -/
theorem openY_tr (d m : Nat) {D : DiskS} {A : GL} {q : Seg} {R : List Rec} {u : List UInt8} (h : Torn D A q R u) (hm : D.most ≤ 100000) (h0 : (openGo (segNums D) ⟨⟨0, 0⟩, [], []⟩ D).1 = 7) :
    Tr Tryz.prog 26 [.pointer (some ⟨d, 0, none⟩)] [blk d (dcell m D), mp fmap m D.files]
      fun v Γ => v = .tuple #[.pointer none, .int .i64 7] ∧ Γ = [blk d (dcell m (openGo (segNums D) ⟨⟨0, 0⟩, [], []⟩ D).2.2), mp fmap m (openGo (segNums D) ⟨⟨0, 0⟩, [], []⟩ D).2.2.files] := by
  refine (open_tr d m D h.ok h.named h.ne hm).post fun v Γ ⟨x, ev, sv, hv, hG⟩ B F w hS => ?_
  rw [h0, if_neg (by decide)] at hv
  rw [hG] at hS
  exact ⟨_, ⟨hv, rfl⟩, hS.tail.tail.tail⟩
structure KSt where
  i : Nat
  W : LogS
  D : DiskS
  ev : Value
  sv : Value
  h : Hrd
  wv : Value
  was : List Ent
  nv : Value
  now : List Ent
  next : Hrd
  reset : Bool
  died : Bool
theorem walKeeps_tr (lv kv nv : Value) (l : List Act) (hl : l.length ≤ 9223372036854775807) (hin : ∀ a ∈ l, a.In) (turn agn : Int) (htu : I64 turn) (hag : I64 agn) (ks ns : List Int) (hks : ks.length ≤ 9223372036854775807) (hns : ns.length ≤ 9223372036854775807) :
    Tr Tryz.prog 4 [lv, .int .i64 turn, kv, nv, .int .i64 agn] [rsl actE lv l, rsl intE kv ks, rsl intE nv ns] fun v Γ => v = .bool true ∧ Γ = [] := by
  have hp1 := pickI_lt turn (n := 120) (by decide)
  have hp2 := pickI_lt agn (n := 6) (by decide)
  refine Tr_of_J Tryz.func4 follows rfl Tryz.ntmps4 (by simp) fun B F => ?_
  repeat' (first | (refine cle rfl shown_tr ?_; rintro v Γ' ⟨rfl, rfl⟩; refine n0 ?_) | (refine cle rfl (small_tr lv l hl) ?_; rintro v Γ' ⟨⟨sm, rfl, hsm⟩, rfl⟩; refine n1 ?_) | (refine cle rfl (beginS_tr 100000 (by omega) (by omega)) ?_; rintro v Γ' ⟨b, w, d, m, p, sv, W, D, ⟨rfl, hF, hG, hSf⟩, rfl⟩; refine n6 ?_) | (refine cle rfl (pick_tr turn 120 htu (by decide)) ?_; rintro v Γ' ⟨rfl, rfl⟩; refine n0 ?_) | (refine cle rfl (fuse_tr d m D (pickI turn 120)) ?_; rintro v Γ' rfl; refine n1 ?_) | (refine cle rfl (hard_tr w d W.hard (.slice none 0 0) sv) ?_; rintro v Γ' ⟨rfl, rfl⟩; refine n1 ?_) | (refine cle rfl (entries_tr w d W.hard (.slice none 0 0) sv W.ents (by have := hF.live.len; omega)) ?_; rintro v11 Γ' rfl; refine n3 ?_) | refine mv ?_ | refine asn ?_ | refine jn ?_ | refine nl ?_ | refine ld rfl ?_ | refine nc ?_ | refine f0 ?_ | refine xt2 ?_ | refine sq ?_ | refine rg ?_ | refine lnb ?_ | refine lls rfl ?_ | refine ad ?_ | refine lss ?_ | refine eql ?_ | refine neq ?_ | refine gtr ?_ | refine geq ?_ | refine nt ?_ | refine pen ?_ | refine p1 ?_ | refine p0 ?_ | refine sk2 ?_ | refine kp ?_ | refine ct ?_ | refine cf ?_ | (refine cd (fun hc => ?_) (fun hc => ?_) <;> try (exfalso; omega)) | (refine cn (fun hc => ?_) (fun hc => ?_) <;> try (exfalso; omega)) | refine bl ?_ | refine ib ?_ | refine xt ?_ | refine al (fun b_ => ?_) | refine sr rfl ?_ | refine la rfl ?_ | refine ixa rfl rfl ?_ | refine fe ?_ | refine lde rfl ?_ | refine lae rfl ?_ | refine fa ?_ | refine seq ?_ | refine sne ?_ | refine cc ?_ | refine af_ ?_ | (refine gd (fun hc => ?_) (fun hc => ?_) <;> try (exfalso; omega)) | (refine gn (fun hc => ?_) (fun hc => ?_) <;> try (exfalso; omega)) | refine aw ?_ | refine pes ?_ | refine aeq ?_ | refine ane ?_ | refine cb (fun hc => ?_) (fun hc => ?_) | refine gs (fun hc => ?_) (fun hc => ?_) | refine J_draw (id := 8) [(0, true, []), (1, true, []), (2, true, []), (3, true, []), (4, true, []), (5, false, [0, 1, 2, 3]), (6, false, [])] (by kernel_rfl) ?_ | refine J_draw (id := 31) [(0, true, []), (1, true, []), (2, true, []), (3, true, []), (4, true, []), (5, false, [0, 1, 2, 3]), (6, false, [])] (by kernel_rfl) ?_ | refine J_draw (id := 38) [(0, true, []), (2, true, []), (1, false, [2]), (3, true, []), (4, true, []), (5, true, []), (7, true, []), (6, false, [7]), (8, false, []), (9, true, [])] (by kernel_rfl) ?_ | refine J_draw (id := 40) [(0, true, []), (1, true, []), (2, true, []), (3, true, []), (5, true, []), (4, false, [5]), (6, true, []), (7, true, []), (8, true, []), (10, true, []), (9, false, [10]), (11, true, []), (12, true, []), (13, true, [])] (by kernel_rfl) ?_ | refine JS_cons rfl rfl (RO_move rfl) ?_ | refine JS_cons rfl rfl (RO_nilCheck rfl) ?_ | refine JS_cons rfl rfl (RO_fieldAddr0 rfl) ?_ | refine JS_cons rfl rfl (RO_load rfl (by rfl)) ?_ | refine JS_off rfl ?_ | refine JS_cons rfl rfl (RO_extract rfl rfl) ?_ | refine JS_cons rfl rfl (RO_not rfl) ?_ | refine JS_cons rfl rfl (RO_fieldAddr rfl) ?_ | refine JS_cons rfl rfl (RO_lnb rfl) ?_ | refine JS_cons rfl rfl (RO_lls rfl) ?_ | refine JS_cons rfl rfl (RO_add_in rfl rfl (by omega)) ?_ | refine JS_cons rfl rfl (RO_ixa rfl rfl (by omega)) ?_ | refine JS_cons rfl rfl (RO_fe rfl) ?_ | refine JS_cons rfl rfl (RO_lde rfl (by omega) rfl) ?_ | refine JS_offu rfl ?_ | refine JS_cons rfl rfl (RO_cc rfl rfl (by omega)) ?_ | refine JS_cons rfl rfl (RO_lae rfl (by omega) (by repeat constructor)) ?_ | refine JS_cons rfl rfl (RO_loadAgg rfl (by repeat constructor)) ?_ | fail)
  iterate 3
    · refine rt ?_
      exact ⟨_, ⟨rfl, rfl⟩, _, by repeat constructor⟩
  rename_i b1
  have hsm' : sm = true := by
    have h1 : (!sm) = false := by assumption
    simpa using h1
  have hks6 : ks.length ≤ 60 := by omega
  have hns6 : ns.length ≤ 60 := by omega
  obtain ⟨h40, h700⟩ := hsm hsm'
  obtain ⟨D0, hD0⟩ : ∃ D0 : DiskS, D0 = { D with fuse := max (pickI turn 120) (-1) } := ⟨_, rfl⟩
  have eD0 : DiskS.mk D.files D.most (max (pickI turn 120) (-1)) D.dead = D0 := hD0.symm
  have hDu : D.unf = D := by
    have := hF.live.sd.fuse
    obtain ⟨f1, f2, f3, f4⟩ := D
    dsimp only at this
    subst this
    rfl
  have hok0 : D0.Ok := by
    have hx := hF.live.sd.ok
    rw [hD0]
    exact { hx with fz1 := by dsimp only; omega, fz2 := by dsimp only; omega }
  have hR0 : Rnd l.length 0 W D0 W.hard W.ents W.hard [] false false := {
    il := Nat.zero_le _, ok := hok0, most := by rw [hD0]; exact hF.mst, wl := by rw [hF.ents]; exact Nat.zero_le _, wr := hF.live.rise, nl := Nat.zero_le _, ni := fun h => by cases h
    how := .inl ⟨rfl, rfl, rfl, by rw [hD0]; show Live W D.unf _; rw [hDu]; exact hF.live, by obtain ⟨G, hG⟩ := hG; exact ⟨G, by rw [hD0]; show Kept W D.unf G; rw [hDu]; exact hG⟩, by rw [hD0]; exact hSf, by rw [hD0]; exact hF.live.sd.dead⟩ }
  have e1 : D.files = D0.files := by rw [hD0]
  rw [eD0, e1]
  refine J_sat (Γ' := sl 70 entE (.slice none 0 0) [] :: _) ?_ fun w hS => sl_nil hS
  refine lp (α := KSt) (fun y => [(0, lv), (2, kv), (3, nv), (4, .int .i64 agn), (13, .pointer (some ⟨b, 0, none⟩)), (16, .pointer (some ⟨b1, 0, none⟩)), (17, y.wv), (18, y.nv), (19, .pointer (some ⟨b_, 0, none⟩)), (20, .bool y.reset), (21, .bool y.died), (22, .int .i64 y.i)])
    (fun y => [blk b (wcell d w), blk w (lcell d y.W.hard y.ev y.sv), sl 70 entE y.ev y.W.ents, sl 94 segE y.sv y.W.segs, blk d (dcell m y.D), mp fmap m y.D.files, blk b1 (hcell y.h), blk b_ (hcell y.next), sl 70 entE y.wv y.was, sl 70 entE y.nv y.now, rsl actE lv l, rsl intE kv ks, rsl intE nv ns])
    (fun y => Rnd l.length y.i y.W y.D y.h y.was y.next y.now y.reset y.died) (fun y => l.length - y.i) ⟨0, W, D0, .slice none 0 0, sv, W.hard, v11, W.ents, .slice none 0 0, [], W.hard, false, false⟩ ?_ hR0
  clear hR0 hok0 hDu eD0 hD0 hF hG hSf hsm hsm' e1
  rintro ⟨i, W, D, ev, sv, h, wv, was, nv2, now, next, reset, died⟩ hR again
  dsimp only at hR again ⊢
  have hok := hR.ok
  have hmo := hR.most
  have hil := hR.il
  have hwl := hR.wl
  have hnl := hR.nl
  have hwr := hR.wr
  have ha : i < l.length → (l.getD i actE.dflt).In ∧ (l.getD i actE.dflt).data.length ≤ 700 := fun h => by
    rw [actGetD h]; exact ⟨hin _ (List.getElem_mem h), h700 _ (List.getElem_mem h)⟩
  by_cases hgo : died = false ∧ i < l.length
  · obtain ⟨rfl, hi'⟩ := hgo
    obtain ⟨hai, had⟩ := ha hi'
    obtain ⟨_, rfl, rfl, hL, ⟨G, hK⟩, hSf, hdd⟩ := hR.how.resolve_right (fun hx => by cases hx.1)
    clear ha
    rcases act_alive hL hK hSf hdd hok hmo hai had with ⟨c1, c2, c3, c4, c5, c6⟩ | ⟨c1, c2, S, rs, c3, c4, c5⟩
    · have hel : (actOf W D (l.getD i actE.dflt)).2.1.ents.length ≤ 5 * (i + 1) := by have := c2.len; omega
      repeat' (first | (refine cle rfl (pick_tr (l.getD i actE.dflt).op 10 (hai.o) (by decide)) ?_; rintro v Γ' ⟨rfl, rfl⟩; refine n0 ?_) | (refine cle rfl (entriesOf_tr (l.getD i actE.dflt) hai (by omega)) ?_; rintro v18 Γ' rfl; refine n1 ?_) | (refine cle rfl (hardOf_tr (l.getD i actE.dflt) hai) ?_; rintro v Γ' ⟨rfl, rfl⟩; refine n0 ?_) | (refine cle rfl (actG_tr b w d m W ev sv D hok hL.seg hL.hin hL.rise (by omega) (l.getD i actE.dflt) hai had (by omega)) ?_; rintro v Γ' ⟨ev2, sv2, rfl, rfl⟩; refine n6 ?_) | (refine cle rfl (hard_tr w d (actOf W D (l.getD i actE.dflt)).2.1.hard ev2 sv2) ?_; rintro v Γ' ⟨rfl, rfl⟩; refine n1 ?_) | (refine cle rfl (entries_tr w d (actOf W D (l.getD i actE.dflt)).2.1.hard ev2 sv2 (actOf W D (l.getD i actE.dflt)).2.1.ents (by omega)) ?_; rintro v11 Γ' rfl; refine n3 ?_) | refine mv ?_ | refine asn ?_ | refine jn ?_ | refine nl ?_ | refine ld rfl ?_ | refine nc ?_ | refine f0 ?_ | refine xt2 ?_ | refine sq ?_ | refine rg ?_ | refine lnb ?_ | refine lls rfl ?_ | refine ad ?_ | refine lss ?_ | refine eql ?_ | refine neq ?_ | refine gtr ?_ | refine geq ?_ | refine nt ?_ | refine pen ?_ | refine p1 ?_ | refine p0 ?_ | refine sk2 ?_ | refine kp ?_ | refine ct ?_ | refine cf ?_ | (refine cd (fun hc => ?_) (fun hc => ?_) <;> try (exfalso; omega)) | (refine cn (fun hc => ?_) (fun hc => ?_) <;> try (exfalso; omega)) | refine bl ?_ | refine ib ?_ | refine xt ?_ | refine al (fun b_ => ?_) | refine sr rfl ?_ | refine la rfl ?_ | refine ixa rfl rfl ?_ | refine fe ?_ | refine lde rfl ?_ | refine lae rfl ?_ | refine fa ?_ | refine seq ?_ | refine sne ?_ | refine cc ?_ | refine af_ ?_ | (refine gd (fun hc => ?_) (fun hc => ?_) <;> try (exfalso; omega)) | (refine gn (fun hc => ?_) (fun hc => ?_) <;> try (exfalso; omega)) | refine aw ?_ | refine pes ?_ | refine aeq ?_ | refine ane ?_ | refine cb (fun hc => ?_) (fun hc => ?_) | refine gs (fun hc => ?_) (fun hc => ?_) | refine J_draw (id := 8) [(0, true, []), (1, true, []), (2, true, []), (3, true, []), (4, true, []), (5, false, [0, 1, 2, 3]), (6, false, [])] (by kernel_rfl) ?_ | refine J_draw (id := 31) [(0, true, []), (1, true, []), (2, true, []), (3, true, []), (4, true, []), (5, false, [0, 1, 2, 3]), (6, false, [])] (by kernel_rfl) ?_ | refine J_draw (id := 38) [(0, true, []), (2, true, []), (1, false, [2]), (3, true, []), (4, true, []), (5, true, []), (7, true, []), (6, false, [7]), (8, false, []), (9, true, [])] (by kernel_rfl) ?_ | refine J_draw (id := 40) [(0, true, []), (1, true, []), (2, true, []), (3, true, []), (5, true, []), (4, false, [5]), (6, true, []), (7, true, []), (8, true, []), (10, true, []), (9, false, [10]), (11, true, []), (12, true, []), (13, true, [])] (by kernel_rfl) ?_ | refine JS_cons rfl rfl (RO_move rfl) ?_ | refine JS_cons rfl rfl (RO_nilCheck rfl) ?_ | refine JS_cons rfl rfl (RO_fieldAddr0 rfl) ?_ | refine JS_cons rfl rfl (RO_load rfl (by rfl)) ?_ | refine JS_off rfl ?_ | refine JS_cons rfl rfl (RO_extract rfl rfl) ?_ | refine JS_cons rfl rfl (RO_not rfl) ?_ | refine JS_cons rfl rfl (RO_fieldAddr rfl) ?_ | refine JS_cons rfl rfl (RO_lnb rfl) ?_ | refine JS_cons rfl rfl (RO_lls rfl) ?_ | refine JS_cons rfl rfl (RO_add_in rfl rfl (by omega)) ?_ | refine JS_cons rfl rfl (RO_ixa rfl rfl (by omega)) ?_ | refine JS_cons rfl rfl (RO_fe rfl) ?_ | refine JS_cons rfl rfl (RO_lde rfl (by omega) rfl) ?_ | refine JS_offu rfl ?_ | refine JS_cons rfl rfl (RO_cc rfl rfl (by omega)) ?_ | refine JS_cons rfl rfl (RO_lae rfl (by omega) (by repeat constructor)) ?_ | refine JS_cons rfl rfl (RO_loadAgg rfl (by repeat constructor)) ?_ | fail)
      · exact ag (again ⟨i + 1, W, D, ev, sv, W.hard, wv, W.ents, nv2, now, next, reset, false⟩ { il := hi', ok := hok, most := hmo, wl := by dsimp only; omega, wr := hwr, nl := hnl, ni := fun h => (by cases h), how := .inl ⟨rfl, rfl, rfl, hL.mono (by dsimp only; omega), ⟨G, hK⟩, hSf, hdd⟩ } (by dsimp only; omega))
      · have e1 : decide ((actOf W D (l.getD i actE.dflt)).1 = 7) = false := decide_eq_false c1
        refine ag (again ⟨i + 1, (actOf W D (l.getD i actE.dflt)).2.1, (actOf W D (l.getD i actE.dflt)).2.2, ev2, sv2, (actOf W D (l.getD i actE.dflt)).2.1.hard, v11, (actOf W D (l.getD i actE.dflt)).2.1.ents, v18, entriesOf (l.getD i actE.dflt), hardOf (l.getD i actE.dflt), decide (pickI (l.getD i actE.dflt).op 10 = 6), decide ((actOf W D (l.getD i actE.dflt)).1 = 7)⟩ ?_ (by dsimp only; omega))
        dsimp only
        rw [e1]
        exact { il := hi', ok := actOf_ok hok _, most := c6, wl := hel, wr := c2.rise, nl := entriesOf_len _, ni := fun h => (by cases h), how := .inl ⟨rfl, rfl, rfl, c2.mono (by omega), c3, c4, c5⟩ }
      · have e1 : decide ((actOf W D (l.getD i actE.dflt)).1 = 7) = false := decide_eq_false c1
        refine J_sat (Γ' := sl 70 entE (.slice none 0 0) [] :: _) ?_ fun w hS => sl_nil hS
        refine ag (again ⟨i + 1, (actOf W D (l.getD i actE.dflt)).2.1, (actOf W D (l.getD i actE.dflt)).2.2, ev2, sv2, (actOf W D (l.getD i actE.dflt)).2.1.hard, v11, (actOf W D (l.getD i actE.dflt)).2.1.ents, .slice none 0 0, [], W.hard, decide (pickI (l.getD i actE.dflt).op 10 = 6), decide ((actOf W D (l.getD i actE.dflt)).1 = 7)⟩ ?_ (by dsimp only; omega))
        dsimp only
        rw [e1]
        exact { il := hi', ok := actOf_ok hok _, most := c6, wl := hel, wr := c2.rise, nl := Nat.zero_le _, ni := fun h => (by cases h), how := .inl ⟨rfl, rfl, rfl, c2.mono (by omega), c3, c4, c5⟩ }
    · repeat' (first | (refine cle rfl (pick_tr (l.getD i actE.dflt).op 10 (hai.o) (by decide)) ?_; rintro v Γ' ⟨rfl, rfl⟩; refine n0 ?_) | (refine cle rfl (entriesOf_tr (l.getD i actE.dflt) hai (by omega)) ?_; rintro v18 Γ' rfl; refine n1 ?_) | (refine cle rfl (hardOf_tr (l.getD i actE.dflt) hai) ?_; rintro v Γ' ⟨rfl, rfl⟩; refine n0 ?_) | (refine cle rfl (actG_tr b w d m W ev sv D hok hL.seg hL.hin hL.rise (by omega) (l.getD i actE.dflt) hai had (by omega)) ?_; rintro v Γ' ⟨ev2, sv2, rfl, rfl⟩; refine n6 ?_) | (refine cle rfl (hard_tr w d (actOf W D (l.getD i actE.dflt)).2.1.hard ev2 sv2) ?_; rintro v Γ' ⟨rfl, rfl⟩; refine n1 ?_) | (refine cle rfl (entries_tr w d (actOf W D (l.getD i actE.dflt)).2.1.hard ev2 sv2 (actOf W D (l.getD i actE.dflt)).2.1.ents (by omega)) ?_; rintro v11 Γ' rfl; refine n3 ?_) | refine mv ?_ | refine asn ?_ | refine jn ?_ | refine nl ?_ | refine ld rfl ?_ | refine nc ?_ | refine f0 ?_ | refine xt2 ?_ | refine sq ?_ | refine rg ?_ | refine lnb ?_ | refine lls rfl ?_ | refine ad ?_ | refine lss ?_ | refine eql ?_ | refine neq ?_ | refine gtr ?_ | refine geq ?_ | refine nt ?_ | refine pen ?_ | refine p1 ?_ | refine p0 ?_ | refine sk2 ?_ | refine kp ?_ | refine ct ?_ | refine cf ?_ | (refine cd (fun hc => ?_) (fun hc => ?_) <;> try (exfalso; omega)) | (refine cn (fun hc => ?_) (fun hc => ?_) <;> try (exfalso; omega)) | refine bl ?_ | refine ib ?_ | refine xt ?_ | refine al (fun b_ => ?_) | refine sr rfl ?_ | refine la rfl ?_ | refine ixa rfl rfl ?_ | refine fe ?_ | refine lde rfl ?_ | refine lae rfl ?_ | refine fa ?_ | refine seq ?_ | refine sne ?_ | refine cc ?_ | refine af_ ?_ | (refine gd (fun hc => ?_) (fun hc => ?_) <;> try (exfalso; omega)) | (refine gn (fun hc => ?_) (fun hc => ?_) <;> try (exfalso; omega)) | refine aw ?_ | refine pes ?_ | refine aeq ?_ | refine ane ?_ | refine cb (fun hc => ?_) (fun hc => ?_) | refine gs (fun hc => ?_) (fun hc => ?_) | refine J_draw (id := 8) [(0, true, []), (1, true, []), (2, true, []), (3, true, []), (4, true, []), (5, false, [0, 1, 2, 3]), (6, false, [])] (by kernel_rfl) ?_ | refine J_draw (id := 31) [(0, true, []), (1, true, []), (2, true, []), (3, true, []), (4, true, []), (5, false, [0, 1, 2, 3]), (6, false, [])] (by kernel_rfl) ?_ | refine J_draw (id := 38) [(0, true, []), (2, true, []), (1, false, [2]), (3, true, []), (4, true, []), (5, true, []), (7, true, []), (6, false, [7]), (8, false, []), (9, true, [])] (by kernel_rfl) ?_ | refine J_draw (id := 40) [(0, true, []), (1, true, []), (2, true, []), (3, true, []), (5, true, []), (4, false, [5]), (6, true, []), (7, true, []), (8, true, []), (10, true, []), (9, false, [10]), (11, true, []), (12, true, []), (13, true, [])] (by kernel_rfl) ?_ | refine JS_cons rfl rfl (RO_move rfl) ?_ | refine JS_cons rfl rfl (RO_nilCheck rfl) ?_ | refine JS_cons rfl rfl (RO_fieldAddr0 rfl) ?_ | refine JS_cons rfl rfl (RO_load rfl (by rfl)) ?_ | refine JS_off rfl ?_ | refine JS_cons rfl rfl (RO_extract rfl rfl) ?_ | refine JS_cons rfl rfl (RO_not rfl) ?_ | refine JS_cons rfl rfl (RO_fieldAddr rfl) ?_ | refine JS_cons rfl rfl (RO_lnb rfl) ?_ | refine JS_cons rfl rfl (RO_lls rfl) ?_ | refine JS_cons rfl rfl (RO_add_in rfl rfl (by omega)) ?_ | refine JS_cons rfl rfl (RO_ixa rfl rfl (by omega)) ?_ | refine JS_cons rfl rfl (RO_fe rfl) ?_ | refine JS_cons rfl rfl (RO_lde rfl (by omega) rfl) ?_ | refine JS_offu rfl ?_ | refine JS_cons rfl rfl (RO_cc rfl rfl (by omega)) ?_ | refine JS_cons rfl rfl (RO_lae rfl (by omega) (by repeat constructor)) ?_ | refine JS_cons rfl rfl (RO_loadAgg rfl (by repeat constructor)) ?_ | fail)
      · exact ag (again ⟨i + 1, W, D, ev, sv, W.hard, wv, W.ents, nv2, now, next, reset, false⟩ { il := hi', ok := hok, most := hmo, wl := by dsimp only; omega, wr := hwr, nl := hnl, ni := fun h => (by cases h), how := .inl ⟨rfl, rfl, rfl, hL.mono (by dsimp only; omega), ⟨G, hK⟩, hSf, hdd⟩ } (by dsimp only; omega))
      · have e1 : decide ((actOf W D (l.getD i actE.dflt)).1 = 7) = true := decide_eq_true c1
        have h6 : ¬ pickI (l.getD i actE.dflt).op 10 = 6 := by omega
        have e2 : decide (pickI (l.getD i actE.dflt).op 10 = 6) = false := decide_eq_false h6
        refine ag (again ⟨i + 1, (actOf W D (l.getD i actE.dflt)).2.1, (actOf W D (l.getD i actE.dflt)).2.2, ev2, sv2, W.hard, wv, W.ents, v18, entriesOf (l.getD i actE.dflt), hardOf (l.getD i actE.dflt), decide (pickI (l.getD i actE.dflt).op 10 = 6), decide ((actOf W D (l.getD i actE.dflt)).1 = 7)⟩ ?_ (by dsimp only; omega))
        dsimp only
        rw [e1, e2]
        exact { il := hi', ok := actOf_ok hok _, most := c2, wl := by omega, wr := hwr, nl := entriesOf_len _, ni := fun _ _ e he => ⟨(entriesOf_in hai e he).1, (c5 h6).2 e he⟩, how := .inr ⟨rfl, S, rs, c3, fun h => (by cases h), fun _ => (c5 h6).1⟩ }
      · have e1 : decide ((actOf W D (l.getD i actE.dflt)).1 = 7) = true := decide_eq_true c1
        have h6 : pickI (l.getD i actE.dflt).op 10 = 6 := by omega
        have e2 : decide (pickI (l.getD i actE.dflt).op 10 = 6) = true := decide_eq_true h6
        refine J_sat (Γ' := sl 70 entE (.slice none 0 0) [] :: _) ?_ fun w hS => sl_nil hS
        refine ag (again ⟨i + 1, (actOf W D (l.getD i actE.dflt)).2.1, (actOf W D (l.getD i actE.dflt)).2.2, ev2, sv2, W.hard, wv, W.ents, .slice none 0 0, [], W.hard, decide (pickI (l.getD i actE.dflt).op 10 = 6), decide ((actOf W D (l.getD i actE.dflt)).1 = 7)⟩ ?_ (by dsimp only; omega))
        dsimp only
        rw [e1, e2]
        exact { il := hi', ok := actOf_ok hok _, most := c2, wl := by omega, wr := hwr, nl := Nat.zero_le _, ni := fun _ h => (by cases h), how := .inr ⟨rfl, S, rs, c3, fun _ => c4 h6, fun h => (by cases h)⟩ }
  · clear again ha hin h700
    obtain ⟨A, q, R, u, t1, t2⟩ := hR.fin ks ns
    obtain ⟨D1, hD1⟩ : ∃ D1, D1 = D.crash ks ns := ⟨_, rfl⟩
    have hok1 := hok.crash ks ns
    have hcm : (D.crash ks ns).most = D.most := rfl
    rw [← hD1] at t1 hok1 hcm
    obtain ⟨D2, hD2⟩ : ∃ D2 : DiskS, D2 = { D1 with fuse := max (pickI agn 6) (-1) } := ⟨_, rfl⟩
    have hok2 : D2.Ok := by rw [hD2]; exact { hok1 with fz1 := by dsimp only; omega, fz2 := by dsimp only; omega }
    have t3 : Torn D2 A q R u := t1.same hok2 (by rw [hD2]; exact t1.dead) (by rw [hD2])
    have hm2 : D2.most = 100000 := by rw [hD2]; dsimp only; omega
    obtain ⟨xh, xe, hx⟩ : ∃ xh xe, foldOf (A ++ [(q, R)]) = (xh, xe) := ⟨_, _, rfl⟩
    rw [hx] at t2
    have hxl := t2.len
    dsimp only at hxl
    have hwl2 : was.length ≤ 200 := by omega
    rcases torn_open t3 with ⟨o1, o2⟩ | ⟨o0, o1, o2, o3, u', o4⟩
    · have hop := openX_tr d m t3 (by omega) o1 (o2.trans hx)
      rw [hD2] at hop
      cases died
      · have hil3 : ¬ i < l.length := fun h => hgo ⟨rfl, h⟩
        repeat' (first | exact ag (keeps_end B F d b1 b_ x ev3 sv3 wv nv2 h next xh was now xe reset false t2 hwl2 hnl hwr hR.ni rfl) | (refine cle rfl (crash_tr d m D hok kv nv ks ns (by omega) (by omega)) ?_; rintro v Γ' rfl; rw [← hD1]; refine n4 ?_) | (refine cle rfl (pick_tr agn 6 hag (by decide)) ?_; rintro v Γ' ⟨rfl, rfl⟩; refine n0 ?_) | (refine cle rfl (fuse_tr d m D1 (pickI agn 6)) ?_; rintro v Γ' rfl; refine n1 ?_) | (refine cle rfl hop ?_; rintro v Γ' ⟨x, ev3, sv3, S3, E3, rfl, rfl⟩; refine n5 ?_) | refine mv ?_ | refine asn ?_ | refine jn ?_ | refine nl ?_ | refine ld rfl ?_ | refine nc ?_ | refine f0 ?_ | refine xt2 ?_ | refine sq ?_ | refine rg ?_ | refine lnb ?_ | refine lls rfl ?_ | refine ad ?_ | refine lss ?_ | refine eql ?_ | refine neq ?_ | refine gtr ?_ | refine geq ?_ | refine nt ?_ | refine pen ?_ | refine p1 ?_ | refine p0 ?_ | refine sk2 ?_ | refine kp ?_ | refine ct ?_ | refine cf ?_ | (refine cd (fun hc => ?_) (fun hc => ?_) <;> try (exfalso; omega)) | (refine cn (fun hc => ?_) (fun hc => ?_) <;> try (exfalso; omega)) | refine bl ?_ | refine ib ?_ | refine xt ?_ | refine al (fun b_ => ?_) | refine sr rfl ?_ | refine la rfl ?_ | refine ixa rfl rfl ?_ | refine fe ?_ | refine lde rfl ?_ | refine lae rfl ?_ | refine fa ?_ | refine seq ?_ | refine sne ?_ | refine cc ?_ | refine af_ ?_ | (refine gd (fun hc => ?_) (fun hc => ?_) <;> try (exfalso; omega)) | (refine gn (fun hc => ?_) (fun hc => ?_) <;> try (exfalso; omega)) | refine aw ?_ | refine pes ?_ | refine aeq ?_ | refine ane ?_ | refine cb (fun hc => ?_) (fun hc => ?_) | refine gs (fun hc => ?_) (fun hc => ?_) | refine J_draw (id := 8) [(0, true, []), (1, true, []), (2, true, []), (3, true, []), (4, true, []), (5, false, [0, 1, 2, 3]), (6, false, [])] (by kernel_rfl) ?_ | refine J_draw (id := 31) [(0, true, []), (1, true, []), (2, true, []), (3, true, []), (4, true, []), (5, false, [0, 1, 2, 3]), (6, false, [])] (by kernel_rfl) ?_ | refine J_draw (id := 38) [(0, true, []), (2, true, []), (1, false, [2]), (3, true, []), (4, true, []), (5, true, []), (7, true, []), (6, false, [7]), (8, false, []), (9, true, [])] (by kernel_rfl) ?_ | refine J_draw (id := 40) [(0, true, []), (1, true, []), (2, true, []), (3, true, []), (5, true, []), (4, false, [5]), (6, true, []), (7, true, []), (8, true, []), (10, true, []), (9, false, [10]), (11, true, []), (12, true, []), (13, true, [])] (by kernel_rfl) ?_ | refine JS_cons rfl rfl (RO_move rfl) ?_ | refine JS_cons rfl rfl (RO_nilCheck rfl) ?_ | refine JS_cons rfl rfl (RO_fieldAddr0 rfl) ?_ | refine JS_cons rfl rfl (RO_load rfl (by rfl)) ?_ | refine JS_off rfl ?_ | refine JS_cons rfl rfl (RO_extract rfl rfl) ?_ | refine JS_cons rfl rfl (RO_not rfl) ?_ | refine JS_cons rfl rfl (RO_fieldAddr rfl) ?_ | refine JS_cons rfl rfl (RO_lnb rfl) ?_ | refine JS_cons rfl rfl (RO_lls rfl) ?_ | refine JS_cons rfl rfl (RO_add_in rfl rfl (by omega)) ?_ | refine JS_cons rfl rfl (RO_ixa rfl rfl (by omega)) ?_ | refine JS_cons rfl rfl (RO_fe rfl) ?_ | refine JS_cons rfl rfl (RO_lde rfl (by omega) rfl) ?_ | refine JS_offu rfl ?_ | refine JS_cons rfl rfl (RO_cc rfl rfl (by omega)) ?_ | refine JS_cons rfl rfl (RO_lae rfl (by omega) (by repeat constructor)) ?_ | refine JS_cons rfl rfl (RO_loadAgg rfl (by repeat constructor)) ?_ | fail)
      · repeat' (first | exact ag (keeps_end B F d b1 b_ x ev3 sv3 wv nv2 h next xh was now xe reset true t2 hwl2 hnl hwr hR.ni rfl) | (refine cle rfl (crash_tr d m D hok kv nv ks ns (by omega) (by omega)) ?_; rintro v Γ' rfl; rw [← hD1]; refine n4 ?_) | (refine cle rfl (pick_tr agn 6 hag (by decide)) ?_; rintro v Γ' ⟨rfl, rfl⟩; refine n0 ?_) | (refine cle rfl (fuse_tr d m D1 (pickI agn 6)) ?_; rintro v Γ' rfl; refine n1 ?_) | (refine cle rfl hop ?_; rintro v Γ' ⟨x, ev3, sv3, S3, E3, rfl, rfl⟩; refine n5 ?_) | refine mv ?_ | refine asn ?_ | refine jn ?_ | refine nl ?_ | refine ld rfl ?_ | refine nc ?_ | refine f0 ?_ | refine xt2 ?_ | refine sq ?_ | refine rg ?_ | refine lnb ?_ | refine lls rfl ?_ | refine ad ?_ | refine lss ?_ | refine eql ?_ | refine neq ?_ | refine gtr ?_ | refine geq ?_ | refine nt ?_ | refine pen ?_ | refine p1 ?_ | refine p0 ?_ | refine sk2 ?_ | refine kp ?_ | refine ct ?_ | refine cf ?_ | (refine cd (fun hc => ?_) (fun hc => ?_) <;> try (exfalso; omega)) | (refine cn (fun hc => ?_) (fun hc => ?_) <;> try (exfalso; omega)) | refine bl ?_ | refine ib ?_ | refine xt ?_ | refine al (fun b_ => ?_) | refine sr rfl ?_ | refine la rfl ?_ | refine ixa rfl rfl ?_ | refine fe ?_ | refine lde rfl ?_ | refine lae rfl ?_ | refine fa ?_ | refine seq ?_ | refine sne ?_ | refine cc ?_ | refine af_ ?_ | (refine gd (fun hc => ?_) (fun hc => ?_) <;> try (exfalso; omega)) | (refine gn (fun hc => ?_) (fun hc => ?_) <;> try (exfalso; omega)) | refine aw ?_ | refine pes ?_ | refine aeq ?_ | refine ane ?_ | refine cb (fun hc => ?_) (fun hc => ?_) | refine gs (fun hc => ?_) (fun hc => ?_) | refine J_draw (id := 8) [(0, true, []), (1, true, []), (2, true, []), (3, true, []), (4, true, []), (5, false, [0, 1, 2, 3]), (6, false, [])] (by kernel_rfl) ?_ | refine J_draw (id := 31) [(0, true, []), (1, true, []), (2, true, []), (3, true, []), (4, true, []), (5, false, [0, 1, 2, 3]), (6, false, [])] (by kernel_rfl) ?_ | refine J_draw (id := 38) [(0, true, []), (2, true, []), (1, false, [2]), (3, true, []), (4, true, []), (5, true, []), (7, true, []), (6, false, [7]), (8, false, []), (9, true, [])] (by kernel_rfl) ?_ | refine J_draw (id := 40) [(0, true, []), (1, true, []), (2, true, []), (3, true, []), (5, true, []), (4, false, [5]), (6, true, []), (7, true, []), (8, true, []), (10, true, []), (9, false, [10]), (11, true, []), (12, true, []), (13, true, [])] (by kernel_rfl) ?_ | refine JS_cons rfl rfl (RO_move rfl) ?_ | refine JS_cons rfl rfl (RO_nilCheck rfl) ?_ | refine JS_cons rfl rfl (RO_fieldAddr0 rfl) ?_ | refine JS_cons rfl rfl (RO_load rfl (by rfl)) ?_ | refine JS_off rfl ?_ | refine JS_cons rfl rfl (RO_extract rfl rfl) ?_ | refine JS_cons rfl rfl (RO_not rfl) ?_ | refine JS_cons rfl rfl (RO_fieldAddr rfl) ?_ | refine JS_cons rfl rfl (RO_lnb rfl) ?_ | refine JS_cons rfl rfl (RO_lls rfl) ?_ | refine JS_cons rfl rfl (RO_add_in rfl rfl (by omega)) ?_ | refine JS_cons rfl rfl (RO_ixa rfl rfl (by omega)) ?_ | refine JS_cons rfl rfl (RO_fe rfl) ?_ | refine JS_cons rfl rfl (RO_lde rfl (by omega) rfl) ?_ | refine JS_offu rfl ?_ | refine JS_cons rfl rfl (RO_cc rfl rfl (by omega)) ?_ | refine JS_cons rfl rfl (RO_lae rfl (by omega) (by repeat constructor)) ?_ | refine JS_cons rfl rfl (RO_loadAgg rfl (by repeat constructor)) ?_ | fail)
    · have hop7 := openY_tr d m t3 (by omega) o1
      obtain ⟨D3, hD3⟩ : ∃ D3, D3 = (openGo (segNums D2) ⟨⟨0, 0⟩, [], []⟩ D2).2.2 := ⟨_, rfl⟩
      rw [← hD3] at hop7 o2 o3 o4
      have t4 := o4 ns ks
      have hm4 : (D3.crash ns ks).most ≤ 100000 := by show D3.most ≤ 100000; omega
      rcases torn_open t4 with ⟨y1, y2⟩ | ⟨y0, _⟩
      · have hop4 := openX_tr d m t4 hm4 y1 (y2.trans hx)
        clear hD3
        rw [hD2] at hop7
        cases died
        · have hil3 : ¬ i < l.length := fun h => hgo ⟨rfl, h⟩
          repeat' (first | exact ag (keeps_end B F d b1 b_ x ev3 sv3 wv nv2 h next xh was now xe reset false t2 hwl2 hnl hwr hR.ni rfl) | (refine cle rfl (crash_tr d m D hok kv nv ks ns (by omega) (by omega)) ?_; rintro v Γ' rfl; rw [← hD1]; refine n4 ?_) | (refine cle rfl (pick_tr agn 6 hag (by decide)) ?_; rintro v Γ' ⟨rfl, rfl⟩; refine n0 ?_) | (refine cle rfl (fuse_tr d m D1 (pickI agn 6)) ?_; rintro v Γ' rfl; refine n1 ?_) | (refine cle rfl hop7 ?_; rintro v Γ' ⟨rfl, rfl⟩; refine n2 ?_) | (refine cle rfl (crash_tr d m D3 o2 nv kv ns ks (by omega) (by omega)) ?_; rintro v Γ' rfl; refine n4 ?_) | (refine cle rfl hop4 ?_; rintro v Γ' ⟨x, ev3, sv3, S3, E3, rfl, rfl⟩; refine n5 ?_) | refine mv ?_ | refine asn ?_ | refine jn ?_ | refine nl ?_ | refine ld rfl ?_ | refine nc ?_ | refine f0 ?_ | refine xt2 ?_ | refine sq ?_ | refine rg ?_ | refine lnb ?_ | refine lls rfl ?_ | refine ad ?_ | refine lss ?_ | refine eql ?_ | refine neq ?_ | refine gtr ?_ | refine geq ?_ | refine nt ?_ | refine pen ?_ | refine p1 ?_ | refine p0 ?_ | refine sk2 ?_ | refine kp ?_ | refine ct ?_ | refine cf ?_ | (refine cd (fun hc => ?_) (fun hc => ?_) <;> try (exfalso; omega)) | (refine cn (fun hc => ?_) (fun hc => ?_) <;> try (exfalso; omega)) | refine bl ?_ | refine ib ?_ | refine xt ?_ | refine al (fun b_ => ?_) | refine sr rfl ?_ | refine la rfl ?_ | refine ixa rfl rfl ?_ | refine fe ?_ | refine lde rfl ?_ | refine lae rfl ?_ | refine fa ?_ | refine seq ?_ | refine sne ?_ | refine cc ?_ | refine af_ ?_ | (refine gd (fun hc => ?_) (fun hc => ?_) <;> try (exfalso; omega)) | (refine gn (fun hc => ?_) (fun hc => ?_) <;> try (exfalso; omega)) | refine aw ?_ | refine pes ?_ | refine aeq ?_ | refine ane ?_ | refine cb (fun hc => ?_) (fun hc => ?_) | refine gs (fun hc => ?_) (fun hc => ?_) | refine J_draw (id := 8) [(0, true, []), (1, true, []), (2, true, []), (3, true, []), (4, true, []), (5, false, [0, 1, 2, 3]), (6, false, [])] (by kernel_rfl) ?_ | refine J_draw (id := 31) [(0, true, []), (1, true, []), (2, true, []), (3, true, []), (4, true, []), (5, false, [0, 1, 2, 3]), (6, false, [])] (by kernel_rfl) ?_ | refine J_draw (id := 38) [(0, true, []), (2, true, []), (1, false, [2]), (3, true, []), (4, true, []), (5, true, []), (7, true, []), (6, false, [7]), (8, false, []), (9, true, [])] (by kernel_rfl) ?_ | refine J_draw (id := 40) [(0, true, []), (1, true, []), (2, true, []), (3, true, []), (5, true, []), (4, false, [5]), (6, true, []), (7, true, []), (8, true, []), (10, true, []), (9, false, [10]), (11, true, []), (12, true, []), (13, true, [])] (by kernel_rfl) ?_ | refine JS_cons rfl rfl (RO_move rfl) ?_ | refine JS_cons rfl rfl (RO_nilCheck rfl) ?_ | refine JS_cons rfl rfl (RO_fieldAddr0 rfl) ?_ | refine JS_cons rfl rfl (RO_load rfl (by rfl)) ?_ | refine JS_off rfl ?_ | refine JS_cons rfl rfl (RO_extract rfl rfl) ?_ | refine JS_cons rfl rfl (RO_not rfl) ?_ | refine JS_cons rfl rfl (RO_fieldAddr rfl) ?_ | refine JS_cons rfl rfl (RO_lnb rfl) ?_ | refine JS_cons rfl rfl (RO_lls rfl) ?_ | refine JS_cons rfl rfl (RO_add_in rfl rfl (by omega)) ?_ | refine JS_cons rfl rfl (RO_ixa rfl rfl (by omega)) ?_ | refine JS_cons rfl rfl (RO_fe rfl) ?_ | refine JS_cons rfl rfl (RO_lde rfl (by omega) rfl) ?_ | refine JS_offu rfl ?_ | refine JS_cons rfl rfl (RO_cc rfl rfl (by omega)) ?_ | refine JS_cons rfl rfl (RO_lae rfl (by omega) (by repeat constructor)) ?_ | refine JS_cons rfl rfl (RO_loadAgg rfl (by repeat constructor)) ?_ | fail)
        · repeat' (first | exact ag (keeps_end B F d b1 b_ x ev3 sv3 wv nv2 h next xh was now xe reset true t2 hwl2 hnl hwr hR.ni rfl) | (refine cle rfl (crash_tr d m D hok kv nv ks ns (by omega) (by omega)) ?_; rintro v Γ' rfl; rw [← hD1]; refine n4 ?_) | (refine cle rfl (pick_tr agn 6 hag (by decide)) ?_; rintro v Γ' ⟨rfl, rfl⟩; refine n0 ?_) | (refine cle rfl (fuse_tr d m D1 (pickI agn 6)) ?_; rintro v Γ' rfl; refine n1 ?_) | (refine cle rfl hop7 ?_; rintro v Γ' ⟨rfl, rfl⟩; refine n2 ?_) | (refine cle rfl (crash_tr d m D3 o2 nv kv ns ks (by omega) (by omega)) ?_; rintro v Γ' rfl; refine n4 ?_) | (refine cle rfl hop4 ?_; rintro v Γ' ⟨x, ev3, sv3, S3, E3, rfl, rfl⟩; refine n5 ?_) | refine mv ?_ | refine asn ?_ | refine jn ?_ | refine nl ?_ | refine ld rfl ?_ | refine nc ?_ | refine f0 ?_ | refine xt2 ?_ | refine sq ?_ | refine rg ?_ | refine lnb ?_ | refine lls rfl ?_ | refine ad ?_ | refine lss ?_ | refine eql ?_ | refine neq ?_ | refine gtr ?_ | refine geq ?_ | refine nt ?_ | refine pen ?_ | refine p1 ?_ | refine p0 ?_ | refine sk2 ?_ | refine kp ?_ | refine ct ?_ | refine cf ?_ | (refine cd (fun hc => ?_) (fun hc => ?_) <;> try (exfalso; omega)) | (refine cn (fun hc => ?_) (fun hc => ?_) <;> try (exfalso; omega)) | refine bl ?_ | refine ib ?_ | refine xt ?_ | refine al (fun b_ => ?_) | refine sr rfl ?_ | refine la rfl ?_ | refine ixa rfl rfl ?_ | refine fe ?_ | refine lde rfl ?_ | refine lae rfl ?_ | refine fa ?_ | refine seq ?_ | refine sne ?_ | refine cc ?_ | refine af_ ?_ | (refine gd (fun hc => ?_) (fun hc => ?_) <;> try (exfalso; omega)) | (refine gn (fun hc => ?_) (fun hc => ?_) <;> try (exfalso; omega)) | refine aw ?_ | refine pes ?_ | refine aeq ?_ | refine ane ?_ | refine cb (fun hc => ?_) (fun hc => ?_) | refine gs (fun hc => ?_) (fun hc => ?_) | refine J_draw (id := 8) [(0, true, []), (1, true, []), (2, true, []), (3, true, []), (4, true, []), (5, false, [0, 1, 2, 3]), (6, false, [])] (by kernel_rfl) ?_ | refine J_draw (id := 31) [(0, true, []), (1, true, []), (2, true, []), (3, true, []), (4, true, []), (5, false, [0, 1, 2, 3]), (6, false, [])] (by kernel_rfl) ?_ | refine J_draw (id := 38) [(0, true, []), (2, true, []), (1, false, [2]), (3, true, []), (4, true, []), (5, true, []), (7, true, []), (6, false, [7]), (8, false, []), (9, true, [])] (by kernel_rfl) ?_ | refine J_draw (id := 40) [(0, true, []), (1, true, []), (2, true, []), (3, true, []), (5, true, []), (4, false, [5]), (6, true, []), (7, true, []), (8, true, []), (10, true, []), (9, false, [10]), (11, true, []), (12, true, []), (13, true, [])] (by kernel_rfl) ?_ | refine JS_cons rfl rfl (RO_move rfl) ?_ | refine JS_cons rfl rfl (RO_nilCheck rfl) ?_ | refine JS_cons rfl rfl (RO_fieldAddr0 rfl) ?_ | refine JS_cons rfl rfl (RO_load rfl (by rfl)) ?_ | refine JS_off rfl ?_ | refine JS_cons rfl rfl (RO_extract rfl rfl) ?_ | refine JS_cons rfl rfl (RO_not rfl) ?_ | refine JS_cons rfl rfl (RO_fieldAddr rfl) ?_ | refine JS_cons rfl rfl (RO_lnb rfl) ?_ | refine JS_cons rfl rfl (RO_lls rfl) ?_ | refine JS_cons rfl rfl (RO_add_in rfl rfl (by omega)) ?_ | refine JS_cons rfl rfl (RO_ixa rfl rfl (by omega)) ?_ | refine JS_cons rfl rfl (RO_fe rfl) ?_ | refine JS_cons rfl rfl (RO_lde rfl (by omega) rfl) ?_ | refine JS_offu rfl ?_ | refine JS_cons rfl rfl (RO_cc rfl rfl (by omega)) ?_ | refine JS_cons rfl rfl (RO_lae rfl (by omega) (by repeat constructor)) ?_ | refine JS_cons rfl rfl (RO_loadAgg rfl (by repeat constructor)) ?_ | fail)
      · exact absurd rfl y0
end Go.Proofs.YtaeefjcbmkiiaaaGreatDoor
/- Whole numbers that a law is handed, in slices; five arguments. -/
namespace Go.Proofs.YtaeefjcbmkiiaaaGreatDoor
open Go Sl Go.ChangeShapes Go.WideShapes Go.ChangeAt Go.RowKit Go.Deep
set_option linter.unusedVariables false
set_option maxRecDepth 100000
section
variable {H : Type} {enc : TypeId × Value → H} {w : World} {sp : Nat → Bool} {held : Bool}
theorem open_intsR {r : Reach} {b0 base : Nat} {v : Value} {d : DataW H} {p : List MemPlace} (hval : Value.okWide Tryz.prog w r b0 32 v) (h : DataW.Trod enc Tryz.prog w base sp held 32 v d p) : ∃ l : List Int, RdW w intE v l ∧ (∀ a ∈ l, I64 a) ∧ l.length ≤ maxLen := by
  obtain ⟨fuel, h⟩ := h
  have hone : v.cells.toList = [v] := by
    unfold Value.okWide at hval
    rw [Tryz.underlying32] at hval
    unfold Cell.okWide Cell.ok at hval
    rw [Tryz.underlying32] at hval
    cases v <;> first | rfl | (simp at hval)
  rw [hone] at h
  rcases open_slice1 Tryz.underlying32 (show Tryz.prog.cellsOf 3 = 1 by kernel_rfl) h with ⟨h0, _⟩ | ⟨a, len, cap, m, n, V, D, Pl, hcs, hb, hl, hm, hmm, hx, hi⟩
  · exact ⟨[], .inl ⟨by simpa using h0, rfl⟩, fun a ha => (by cases ha), Nat.zero_le _⟩
  · have hv : v = .slice (some a) len cap := by simpa using hcs
    subst hv
    have hhas : w.has Tryz.prog r b0 a 3 cap := by
      unfold Value.okWide at hval
      rw [Tryz.underlying32] at hval
      unfold Cell.okWide Cell.ok at hval
      rw [Tryz.underlying32] at hval
      exact hval.2.2
    obtain ⟨_, hspot, row, cells, hsh, _⟩ := hhas
    obtain ⟨blk, off, spot⟩ := a
    dsimp only at hspot hsh
    subst hspot
    have hblk : ∃ cur E fz, w.heap[blk]? = some (.cells cur E fz) := by
      unfold World.shape? at hsh
      split at hsh
      · rename_i c e fz hc; exact ⟨c, e, fz, hc⟩
      · cases hsh
    obtain ⟨cur, E, fz, hblk⟩ := hblk
    have hlm : len ≤ m := by rw [hmm]; split <;> omega
    have key : ∀ i, i < len → ∃ z : Int, I64 z ∧ cur.toList[off + i]? = some (.int .i64 z) := fun i hil => by
      obtain ⟨hc, ht⟩ := hi i (by omega)
      obtain ⟨z, hz, _, hw⟩ := DataW.trod_int Tryz.underlying3 ht
      have hVz : V i = .int .i64 z := by simpa using hz
      refine ⟨z, i64_wf hw, ?_⟩
      rw [addr_add] at hc
      unfold World.cell? at hc
      dsimp only at hc
      rw [hblk] at hc
      rw [← hVz]
      simpa using hc
    have key' : ∃ f : Nat → Int, ∀ i, i < len → I64 (f i) ∧ cur.toList[off + i]? = some (.int .i64 (f i)) := by
      refine ⟨fun i => if h : i < len then (key i h).choose else 0, fun i hil => ?_⟩
      simp only [hil, dif_pos]
      exact (key i hil).choose_spec
    obtain ⟨f, hf⟩ := key'
    have hll : ((List.range len).map f).length = len := by simp
    refine ⟨(List.range len).map f, .inr ⟨blk, off, cap, cur, E, fz, by rw [hll], by rw [hll]; exact hl, hblk, fun j hj => ?_⟩, fun x hx => ?_, by rw [hll]; omega⟩
    · rw [hll] at hj
      have hj1 : j < len := by have : j < len * 1 := hj; omega
      rw [(hf j hj1).2]
      have e2 : (flat intE ((List.range len).map f))[j * 1 + 0]? = _ := flat_get (e := intE) ((List.range len).map f) j 0 (by rw [hll]; exact hj1) (by show 0 < 1; omega)
      have e3 : ((List.range len).map f).getD j intE.dflt = f j := by
        rw [List.getD_eq_getElem?_getD, List.getElem?_map, List.getElem?_range hj1]; rfl
      rw [e3, Nat.mul_one, Nat.add_zero] at e2
      rw [e2]; rfl
    · obtain ⟨i, hir, rfl⟩ := List.mem_map.1 hx
      exact (hf i (List.mem_range.1 hir)).1
variable {enc' : TypeId × Value → H} {P : Program} {base : Nat} {spare : Nat → Bool}
theorem trodAll_five {t t1 t2 t3 t4 : TypeId} {args : Array Value} {ds : List (DataW H)} {ps : List MemPlace} (h : DataW.TrodAll enc P w base spare held [t, t1, t2, t3, t4] args.toList ds ps) :
    ∃ v v1 v2 v3 v4 d d1 d2 d3 d4 p p1 p2 p3 p4, args = #[v, v1, v2, v3, v4] ∧ ds = [d, d1, d2, d3, d4] ∧ ps = p ++ p1 ++ p2 ++ p3 ++ p4 ∧ DataW.Trod enc P w base spare held t v d p ∧ DataW.Trod enc P w base spare held t1 v1 d1 p1 ∧ DataW.Trod enc P w base spare held t2 v2 d2 p2 ∧ DataW.Trod enc P w base spare held t3 v3 d3 p3 ∧ DataW.Trod enc P w base spare held t4 v4 d4 p4 := by
  obtain ⟨v, vs, d, ds', p, q, hargs, rfl, rfl, hd, hrest⟩ := trodAll_cons h
  obtain ⟨v1, vs1, d1, ds1, p1, q1, rfl, rfl, rfl, hd1, hrest1⟩ := trodAll_cons hrest
  obtain ⟨v2, vs2, d2, ds2, p2, q2, rfl, rfl, rfl, hd2, hrest2⟩ := trodAll_cons hrest1
  obtain ⟨v3, vs3, d3, ds3, p3, q3, rfl, rfl, rfl, hd3, hrest3⟩ := trodAll_cons hrest2
  obtain ⟨v4, vs4, d4, ds4, p4, q4, rfl, rfl, rfl, hd4, hrest4⟩ := trodAll_cons hrest3
  obtain ⟨rfl, rfl, rfl⟩ := trodAll_nil hrest4
  exact ⟨v, v1, v2, v3, v4, d, d1, d2, d3, d4, p, p1, p2, p3, p4, by cases args; simp_all, rfl, by simp, hd, hd1, hd2, hd3, hd4⟩
theorem trodAll_mk5 {t t1 t2 t3 t4 : TypeId} {v v1 v2 v3 v4 : Value} {d d1 d2 d3 d4 : DataW H} {p p1 p2 p3 p4 : List MemPlace} (h : DataW.Trod enc P w base spare held t v d p) (h1 : DataW.Trod enc P w base spare held t1 v1 d1 p1) (h2 : DataW.Trod enc P w base spare held t2 v2 d2 p2) (h3 : DataW.Trod enc P w base spare held t3 v3 d3 p3) (h4 : DataW.Trod enc P w base spare held t4 v4 d4 p4) :
    DataW.TrodAll enc P w base spare held [t, t1, t2, t3, t4] [v, v1, v2, v3, v4] [d, d1, d2, d3, d4] (p ++ (p1 ++ (p2 ++ (p3 ++ p4)))) := trodAll_cons_mk h (trodAll_cons_mk h1 (trodAll_mk3 h2 h3 h4))
end
/-- Where a law begins: three slices that are handed in. -/
theorem Sat.start3 {W : World} {α β γ : Type} {e1 : EncT α} {e2 : EncT β} {e3 : EncT γ} {v1 v2 v3 : Value} {l1 : List α} {l2 : List β} {l3 : List γ} (h1 : RdW W e1 v1 l1) (h2 : RdW W e2 v2 l2) (h3 : RdW W e3 v3 l3) : Sat W (pur True) [rsl e1 v1 l1, rsl e2 v2 l2, rsl e3 v3 l3] W := by
  have hd : Hp.disj (fun _ => none) (fun _ => none) := fun b => by simp
  have hle : Hp.le (fun _ => none) (fun _ => none) := fun b o h => by cases h
  have one : ∀ {δ : Type} {e : EncT δ} {v : Value} {l : List δ}, RdW W e v l → rsl e v l (baseHp W) (fun _ => none) := fun h => by
    rcases h with h | ⟨b, off, cap, cur, E, fz, h1, h2, h3, h4⟩
    · exact .inl h
    · refine .inr ⟨b, off, cap, cur, E, fz, h1, h2, ?_, h4⟩
      unfold baseHp
      have h3' : W.heap[b]? = some (.cells cur E fz) := h3
      rw [if_pos (Array.getElem?_eq_some_iff.1 h3').1]; exact h3'
  have cons : ∀ {A : Assn} {Γ : List Assn}, A (baseHp W) (fun _ => none) → sat Γ (baseHp W) (fun _ => none) → sat (A :: Γ) (baseHp W) (fun _ => none) := fun ha hg => ⟨fun _ => none, fun _ => none, hd, hle, hle, ha, hg⟩
  exact ⟨Below.refl _ _, fun _ => none, ⟨fun b o h => (by cases h), cons trivial (cons (one h1) (cons (one h2) (cons (one h3) trivial)))⟩⟩
end Go.Proofs.YtaeefjcbmkiiaaaGreatDoor
