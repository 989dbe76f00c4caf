/- The log: a save: what may not be saved; nothing to be saved; saved. -/
import Derived.Test.YtaeefjcbmkiiaaaGreatDoorW5
namespace Go.Proofs.YtaeefjcbmkiiaaaGreatDoor
open Go Sl
attribute [local irreducible] J JR JS RO CR Arr Sat Tr sat blk
set_option linter.unusedVariables false
set_option maxHeartbeats 800000
set_option maxRecDepth 4000
theorem save_arg (w d m : Nat) (lv : Value) (W : LogS) (ev sv : Value) (D : DiskS) (h : Hrd) (l : List Ent) (hl : l.length ≤ 100) (hb : h.term < 0 ∨ h.vote < 0 ∨ (l.any fun e => !e.right) = true) :
    Tr Tryz.prog 31 [.pointer (some ⟨w, 0, none⟩), hrdV h, lv] [sl 70 entE lv l, blk w (lcell d W.hard ev sv), sl 70 entE ev W.ents, sl 94 segE sv W.segs, blk d (dcell m D), mp fmap m D.files]
      fun v Γ => v = .int .i64 1 ∧ Γ = [blk w (lcell d W.hard ev sv), sl 70 entE ev W.ents, sl 94 segE sv W.segs, blk d (dcell m D), mp fmap m D.files] := by
  refine Tr_of_J Tryz.func31 follows rfl Tryz.ntmps31 (by simp) fun B F => ?_
  repeat' (first | (refine cl (containsFunc_tr lv l (by omega)) ?_; rintro r Γ' ⟨rfl, rfl⟩; refine n1 ?_) | refine mv ?_ | refine asn ?_ | refine jn ?_ | refine nl ?_ | refine ld rfl ?_ | refine nc ?_ | refine f0 ?_ | refine xt2 ?_ | refine sq ?_ | refine rg ?_ | refine lnb ?_ | refine lls rfl ?_ | refine ad ?_ | refine sb ?_ | refine lss ?_ | refine eql ?_ | refine neq ?_ | refine gtr ?_ | refine geq ?_ | refine leq ?_ | refine nt ?_ | refine pen ?_ | refine pnn ?_ | refine p1 ?_ | refine p0 ?_ | refine sk2 ?_ | refine kp ?_ | refine ct ?_ | refine cf ?_ | (refine cd (fun hc => ?_) (fun hc => ?_) <;> try (exfalso; omega)) | (refine cn (fun hc => ?_) (fun hc => ?_) <;> try (exfalso; omega)) | refine bl ?_ | refine ib ?_ | refine xt ?_ | refine bx (fun b_ => ?_) | refine al (fun b_ => ?_) | refine sr rfl ?_ | refine la rfl ?_ | refine ixa rfl rfl ?_ | refine fe ?_ | refine lde rfl ?_ | refine lae rfl ?_ | refine fa ?_ | refine bld ?_ | refine mf2 ?_ | refine seq ?_ | refine sne ?_ | refine cc ?_ | refine ixb ?_ | refine slb ?_ | refine slbl ?_ | refine slbh ?_ | refine cv ?_ | refine mx ?_ | refine mn ?_ | refine ml ?_ | refine af_ ?_ | (refine gd (fun hc => ?_) (fun hc => ?_) <;> try (exfalso; omega)) | (refine gn (fun hc => ?_) (fun hc => ?_) <;> try (exfalso; omega)) | refine aw ?_ | refine pes ?_ | refine pns ?_ | refine sw ?_ | refine ng ?_ | refine aeq ?_ | refine ane ?_ | refine sli rfl ?_ | refine slil rfl ?_ | refine slih rfl ?_ | refine cb (fun hc => ?_) (fun hc => ?_) | refine gs (fun hc => ?_) (fun hc => ?_) | refine J_draw (id := 11) [(0, true, []), (1, true, []), (2, true, []), (3, true, []), (4, true, []), (5, true, []), (6, true, []), (7, true, []), (8, true, []), (9, true, []), (10, true, [])] (by kernel_rfl) ?_ | refine J_draw2 (id := 16) [(0, true, []), (1, true, []), (3, true, []), (4, true, []), (5, true, []), (6, true, []), (2, false, [0, 3, 4, 5, 6]), (7, false, [0, 1]), (8, false, [0]), (9, true, []), (10, true, []), (11, false, [])] [(0, true, []), (1, true, []), (3, true, []), (4, true, []), (5, true, []), (6, true, []), (7, false, [0, 1]), (2, false, [0, 3, 4, 5, 6]), (8, false, [0]), (9, true, []), (10, true, []), (11, false, [])] (by kernel_rfl) ?_ ?_ | refine J_draw (id := 17) [(0, true, []), (1, true, []), (2, true, []), (3, true, []), (4, true, []), (5, true, []), (6, true, []), (7, true, []), (8, true, []), (9, false, []), (10, true, [])] (by kernel_rfl) ?_ | refine JS_cons rfl rfl (RO_move rfl) ?_ | refine JS_cons rfl rfl (RO_nilCheck rfl) ?_ | refine JS_cons rfl rfl (RO_fieldAddr0 rfl) ?_ | refine JS_cons rfl rfl (RO_load rfl (by rfl)) ?_ | refine JS_off rfl ?_ | refine JS_cons rfl rfl (RO_extract rfl rfl) ?_ | refine JS_cons rfl rfl (RO_not rfl) ?_ | refine JS_cons rfl rfl (RO_fieldAddr rfl) ?_ | refine JS_cons rfl rfl (RO_lnb rfl) ?_ | refine JS_cons rfl rfl (RO_lls rfl) ?_ | refine JS_cons rfl rfl (RO_add_in rfl rfl (by omega)) ?_ | refine JS_cons rfl rfl (RO_sub_in rfl rfl (by omega)) ?_ | refine JS_cons rfl rfl (RO_ixa rfl rfl (by omega)) ?_ | refine JS_cons rfl rfl (RO_fe rfl) ?_ | refine JS_cons rfl rfl (RO_lde rfl (by omega) rfl) ?_ | refine JS_cons rfl rfl (RO_slih rfl rfl (by omega)) ?_ | refine JS_cons rfl rfl (RO_slil rfl rfl (by omega)) ?_ | refine JS_offu rfl ?_ | refine JS_cons rfl rfl (RO_cc rfl rfl (by omega)) ?_ | refine JS_cons rfl rfl (RO_bld rfl (by (repeat (first | exact FillS.nil | (apply FillS.cons; rfl; rfl; constructor; rfl; (focus repeat constructor)))))) ?_ | refine JS_cons rfl rfl (RO_lae rfl (by omega) (by repeat constructor)) ?_ | refine JS_cons rfl rfl (RO_loadAgg rfl (by repeat constructor)) ?_)
  · refine rt ?_
    exact ⟨_, ⟨rfl, rfl⟩, _, by repeat constructor⟩
  · refine rt ?_
    exact ⟨_, ⟨rfl, rfl⟩, _, by repeat constructor⟩
  · refine rt ?_
    exact ⟨_, ⟨rfl, rfl⟩, _, by repeat constructor⟩
  · exfalso
    rcases hb with hb | hb | hb
    · exact absurd hb (by assumption)
    · exact absurd hb (by assumption)
    · have h3 : (l.any fun e => !e.right) = false := by assumption
      rw [hb] at h3; cases h3
theorem containsFunc0_tr (lv : Value) (L : List Ent) (hl : L.length ≤ 1000000) (hany : (L.any fun e => !e.right) = false) : Tr Tryz.prog 55 [lv, .func (.func 56) #[] #[]] [sl 70 entE lv L]
    fun v Γ => v = .bool false ∧ Γ = [sl 70 entE lv L] := by
  have := containsFunc_tr lv L hl
  rwa [hany] at this
theorem entText_len {e : Ent} (he : e.In) (hd : e.data.length ≤ 60000) : (entText e).length ≤ 50 + e.data.length := by
  have h2 := (encInt_length (n := 2) (by decide) (by decide)).2
  have h3 := (encInt_length he.i.1 he.i.2).2
  have h4 := (encInt_length he.t.1 he.t.2).2
  have h5 := (encInt_length he.k.1 he.k.2).2
  have h6 := (encInt_length (n := e.data.length) (by omega) (by omega)).2
  simp only [entText, encInts, encTexts, encText, List.flatMap_cons, List.flatMap_nil, List.length_append, List.append_nil]
  omega
/-! ### saved -/
theorem eqH (h g : Hrd) : eqCells [.int .i64 h.term, .int .i64 h.vote] [.int .i64 g.term, .int .i64 g.vote] = decide (h = g) := by
  obtain ⟨a, b⟩ := h
  obtain ⟨c, d⟩ := g
  simp only [eqCells, eqCell, Hrd.mk.injEq, Bool.and_true]
  by_cases h1 : a = c <;> by_cases h2 : b = d <;> simp [h1, h2]
theorem puts_take {V : LogS} {l : List Ent} {i : Nat} (hi : i < l.length) : puts V (l.take (i + 1)) = (puts V (l.take i)).put (l.getD i .none) := by
  unfold puts
  rw [List.take_succ_eq_append_getElem hi, List.foldl_append, getD_of hi]; rfl
theorem lastS_num {S : List Seg} (hS : S ≠ []) {i : Int} : (lastS (setTop S i)).number = (lastS S).number := by unfold setTop; rw [lastS_setLast hS]
theorem layS_len (S : List Seg) (D : DiskS) (h : Hrd) (tell : Bool) (ps : List (List UInt8)) : (layS S D h tell ps).length = S.length := by
  unfold layS; split
  · rfl
  · unfold grown; rw [setLast_length]
theorem layS_num {S : List Seg} (hS : S ≠ []) (D : DiskS) (h : Hrd) (tell : Bool) (ps : List (List UInt8)) : (lastS (layS S D h tell ps)).number = (lastS S).number := by
  unfold layS; split
  · rfl
  · unfold grown; rw [lastS_setLast hS]
theorem layD_ok {D : DiskS} (hD : D.Ok) (S : List Seg) (h : Hrd) (tell : Bool) (ps : List (List UInt8)) : (layD S D h tell ps).Ok := by
  unfold layD layA; split
  · exact hD.append _ _
  · exact (hD.append _ _).sync _
theorem ne_of_len {α : Type} {a b : List α} (h : a.length = b.length) (hb : b ≠ []) : a ≠ [] := by
  rintro rfl; exact hb (List.length_eq_zero_iff.1 h.symm)
theorem setTop_len (S : List Seg) (i : Int) : (setTop S i).length = S.length := by unfold setTop; rw [setLast_length]
theorem next_last (S : List Seg) : lastS (next S) = ⟨(lastS S).number + 1, 0, 0⟩ := lastS_end _ _
theorem ite_or {α : Type} {p : Prop} [Decidable p] {r a b : α} (h : r = if p then a else b) : (p ∧ r = a) ∨ (¬ p ∧ r = b) := by
  by_cases hp : p
  · exact .inl ⟨hp, by rw [h, if_pos hp]⟩
  · exact .inr ⟨hp, by rw [h, if_neg hp]⟩
theorem getD_last {α : Type} (X : List α) (t z : α) : (X ++ [t]).getD X.length z = t := by simp
/-- What holds while entries are put. -/
structure PutOk (V0 V : LogS) (i : Nat) : Prop where
  rise : Rise V.ents
  len : V.ents.length ≤ V0.ents.length + i
  slen : V.segs.length = V0.segs.length
  hd : V.hard = V0.hard
theorem PutOk.put {V0 V : LogS} {i : Nat} (h : PutOk V0 V i) {e : Ent} (he : e.In) (h0 : 0 < e.index) : PutOk V0 (V.put e) (i + 1) where
  rise := putE_rise h.rise he h0
  len := Nat.le_trans (putE_len _ _) (by have := h.len; omega)
  slen := (setTop_len _ _).trans h.slen
  hd := h.hd
theorem save_same (w d m : Nat) (lv : Value) (W : LogS) (ev sv : Value) (D : DiskS) (hD : D.Ok) (h : Hrd) (hh : h.In) (l : List Ent) (hl : l.length ≤ 100) (hli : ∀ e ∈ l, e.In ∧ e.data.length ≤ 60000) (h0 : 0 ≤ h.term) (h1 : 0 ≤ h.vote) (hany : (l.any fun e => !e.right) = false)
    (hS : W.segs ≠ []) (hSl : W.segs.length ≤ 1000) (hn0 : 0 ≤ (lastS W.segs).number) (hn1 : (lastS W.segs).number < 99) (hz0 : 0 ≤ (lastS W.segs).size) (hz1 : (lastS W.segs).size ≤ 100000000) (hR : Rise W.ents) (hLl : W.ents.length ≤ 100000) (hm : ¬ more W.segs) :
    Tr Tryz.prog 31 [.pointer (some ⟨w, 0, none⟩), hrdV h, lv] [sl 70 entE lv l, blk w (lcell d W.hard ev sv), sl 70 entE ev W.ents, sl 94 segE sv W.segs, blk d (dcell m D), mp fmap m D.files]
      fun v Γ => ∃ ev' sv', v = .int .i64 (W.save D h l).1 ∧ Γ = [blk w (lcell d (W.save D h l).2.1.hard ev' sv'), sl 70 entE ev' (W.save D h l).2.1.ents, sl 94 segE sv' (W.save D h l).2.1.segs, blk d (dcell m (W.save D h l).2.2), mp fmap m (W.save D h l).2.2.files] := by
  have hlast : 0 < W.segs.length := List.length_pos_iff.2 hS
  have hn0r : 0 ≤ (W.segs.getD (((W.segs.length : Nat) : Int) - 1).toNat segE.dflt).number := hn0
  have hn1r : (W.segs.getD (((W.segs.length : Nat) : Int) - 1).toNat segE.dflt).number < 99 := hn1
  have hc1 : ¬ (h.term < 0 ∨ h.vote < 0 ∨ (l.any fun e => !e.right) = true) := by rw [hany]; simp; omega
  have hpos : ∀ e ∈ l, 0 < e.index := fun e he => by
    have := List.any_eq_false.1 hany e he
    have hr : e.right = true := by simpa using this
    simp only [Ent.right, Bool.and_eq_true, decide_eq_true_eq] at hr
    exact hr.1.1.1
  have htell : (!eqCells [.int .i64 h.term, .int .i64 h.vote] [.int .i64 W.hard.term, .int .i64 W.hard.vote]) = decide (h ≠ W.hard) := by rw [eqH]; simp
  refine Tr_of_J Tryz.func31 follows rfl Tryz.ntmps31 (by simp) fun B F => ?_
  repeat' (first | (refine cl (containsFunc0_tr lv l (by omega) hany) ?_; rintro r Γ' ⟨rfl, rfl⟩; refine n1 ?_) | refine mv ?_ | refine asn ?_ | refine jn ?_ | refine nl ?_ | refine ld rfl ?_ | refine nc ?_ | refine f0 ?_ | refine xt2 ?_ | refine sq ?_ | refine rg ?_ | refine lnb ?_ | refine lls rfl ?_ | refine ad ?_ | refine sb ?_ | refine lss ?_ | refine eql ?_ | refine neq ?_ | refine gtr ?_ | refine geq ?_ | refine leq ?_ | refine nt ?_ | refine pen ?_ | refine pnn ?_ | refine p1 ?_ | refine p0 ?_ | refine sk2 ?_ | refine kp ?_ | refine ct ?_ | refine cf ?_ | (refine cd (fun hc => ?_) (fun hc => ?_) <;> try (exfalso; omega)) | (refine cn (fun hc => ?_) (fun hc => ?_) <;> try (exfalso; omega)) | refine bl ?_ | refine ib ?_ | refine xt ?_ | refine bx (fun b_ => ?_) | refine al (fun b_ => ?_) | refine sr rfl ?_ | refine la rfl ?_ | refine ixa rfl rfl ?_ | refine fe ?_ | refine lde rfl ?_ | refine lae rfl ?_ | refine fa ?_ | refine bld ?_ | refine mf2 ?_ | refine seq ?_ | refine sne ?_ | refine cc ?_ | refine ixb ?_ | refine slb ?_ | refine slbl ?_ | refine slbh ?_ | refine cv ?_ | refine mx ?_ | refine mn ?_ | refine ml ?_ | refine af_ ?_ | (refine gd (fun hc => ?_) (fun hc => ?_) <;> try (exfalso; omega)) | (refine gn (fun hc => ?_) (fun hc => ?_) <;> try (exfalso; omega)) | refine aw ?_ | refine pes ?_ | refine pns ?_ | refine sw ?_ | refine ng ?_ | refine aeq ?_ | refine ane ?_ | refine sli rfl ?_ | refine slil rfl ?_ | refine slih rfl ?_ | refine cb (fun hc => ?_) (fun hc => ?_) | refine gs (fun hc => ?_) (fun hc => ?_) | refine J_draw (id := 11) [(0, true, []), (1, true, []), (2, true, []), (3, true, []), (4, true, []), (5, true, []), (6, true, []), (7, true, []), (8, true, []), (9, true, []), (10, true, [])] (by kernel_rfl) ?_ | refine J_draw2 (id := 16) [(0, true, []), (1, true, []), (3, true, []), (4, true, []), (5, true, []), (6, true, []), (2, false, [0, 3, 4, 5, 6]), (7, false, [0, 1]), (8, false, [0]), (9, true, []), (10, true, []), (11, false, [])] [(0, true, []), (1, true, []), (3, true, []), (4, true, []), (5, true, []), (6, true, []), (7, false, [0, 1]), (2, false, [0, 3, 4, 5, 6]), (8, false, [0]), (9, true, []), (10, true, []), (11, false, [])] (by kernel_rfl) ?_ ?_ | refine J_draw (id := 17) [(0, true, []), (1, true, []), (2, true, []), (3, true, []), (4, true, []), (5, true, []), (6, true, []), (7, true, []), (8, true, []), (9, false, []), (10, true, [])] (by kernel_rfl) ?_ | refine JS_cons rfl rfl (RO_move rfl) ?_ | refine JS_cons rfl rfl (RO_nilCheck rfl) ?_ | refine JS_cons rfl rfl (RO_fieldAddr0 rfl) ?_ | refine JS_cons rfl rfl (RO_load rfl (by rfl)) ?_ | refine JS_off rfl ?_ | refine JS_cons rfl rfl (RO_extract rfl rfl) ?_ | refine JS_cons rfl rfl (RO_not rfl) ?_ | refine JS_cons rfl rfl (RO_fieldAddr rfl) ?_ | refine JS_cons rfl rfl (RO_lnb rfl) ?_ | refine JS_cons rfl rfl (RO_lls rfl) ?_ | refine JS_cons rfl rfl (RO_add_in rfl rfl (by omega)) ?_ | refine JS_cons rfl rfl (RO_sub_in rfl rfl (by omega)) ?_ | refine JS_cons rfl rfl (RO_ixa rfl rfl (by omega)) ?_ | refine JS_cons rfl rfl (RO_fe rfl) ?_ | refine JS_cons rfl rfl (RO_lde rfl (by omega) rfl) ?_ | refine JS_cons rfl rfl (RO_slih rfl rfl (by omega)) ?_ | refine JS_cons rfl rfl (RO_slil rfl rfl (by omega)) ?_ | refine JS_offu rfl ?_ | refine JS_cons rfl rfl (RO_cc rfl rfl (by omega)) ?_ | refine JS_cons rfl rfl (RO_bld rfl (by (repeat (first | exact FillS.nil | (apply FillS.cons; rfl; rfl; constructor; rfl; (focus repeat constructor)))))) ?_ | refine JS_cons rfl rfl (RO_lae rfl (by omega) (by repeat constructor)) ?_ | refine JS_cons rfl rfl (RO_loadAgg rfl (by repeat constructor)) ?_)
  refine J_sat (Γ' := sl 9 strE (.slice none 0 0) [] :: _) ?_ fun w hS => sl_nil hS
  refine lp (α := Nat × Int × Value × List (List UInt8)) (fun y => [(0, .pointer (some ⟨w, 0, none⟩)), (2, lv), (4, .pointer (some ⟨b_, 0, none⟩)), (7, y.2.2.1), (27, lv), (28, .int .i64 l.length), (29, .int .i64 y.2.1)]) (fun y => [sl 9 strE y.2.2.1 y.2.2.2, blk b_ (.cells ⟨[.int .i64 h.term, .int .i64 h.vote]⟩ 50 (0, 0)), sl 70 entE lv l, blk w (lcell d W.hard ev sv), sl 70 entE ev W.ents, sl 94 segE sv W.segs, blk d (dcell m D), mp fmap m D.files]) (fun y => y.2.1 = (y.1 : Int) ∧ y.1 ≤ l.length ∧ y.2.2.2 = (l.take y.1).map entText) (fun y => l.length - y.1) (0, 0, .slice none 0 0, []) ?_ ⟨rfl, Nat.zero_le _, rfl⟩
  rintro ⟨i, n, pv, X⟩ ⟨hn, hi, hX⟩ again
  dsimp only at hn hi hX again ⊢
  subst hn
  have hXl : X.length ≤ 100 := by rw [hX, List.length_map, List.length_take]; omega
  have hgd : i < l.length → (l.getD i .none).In ∧ (l.getD i .none).data.length ≤ 60000 := fun hi => by
    rw [getD_of hi]; exact hli _ (List.getElem_mem hi)
  have hXe : (X ++ [entText (l.getD i .none)]).length = X.length + 1 := by simp
  have hXg : i < l.length → ((X ++ [entText (l.getD i .none)]).getD ((((X ++ [entText (l.getD i .none)]).length : Nat) : Int) - 1).toNat strE.dflt).length ≤ 65536 := fun hi => by
    have e : ((((X ++ [entText (l.getD i .none)]).length : Nat) : Int) - 1).toNat = X.length := by rw [hXe]; omega
    rw [e]
    have := entText_len (hgd hi).1 (hgd hi).2
    have := (hgd hi).2
    rw [getD_last]; omega
  repeat' (first | (refine cl (entText_tr (l.getD i .none) (hgd (by omega)).1 (by have := (hgd (by omega)).2; omega)) ?_; rintro r Γ' ⟨rfl, rfl⟩; refine n0 ?_) | refine bsl (e := strE) (X := [entText (l.getD i .none)]) (fun v2 => ?_) (.cona rfl rfl .nil) | refine apo rfl rfl (fun v3 => ?_) (by simp; omega) (by simp; omega) | refine mv ?_ | refine asn ?_ | refine jn ?_ | refine nl ?_ | refine ld rfl ?_ | refine nc ?_ | refine f0 ?_ | refine xt2 ?_ | refine sq ?_ | refine rg ?_ | refine lnb ?_ | refine lls rfl ?_ | refine ad ?_ | refine sb ?_ | refine lss ?_ | refine eql ?_ | refine neq ?_ | refine gtr ?_ | refine geq ?_ | refine leq ?_ | refine nt ?_ | refine pen ?_ | refine pnn ?_ | refine p1 ?_ | refine p0 ?_ | refine sk2 ?_ | refine kp ?_ | refine ct ?_ | refine cf ?_ | (refine cd (fun hc => ?_) (fun hc => ?_) <;> try (exfalso; omega)) | (refine cn (fun hc => ?_) (fun hc => ?_) <;> try (exfalso; omega)) | refine bl ?_ | refine ib ?_ | refine xt ?_ | refine bx (fun b_ => ?_) | refine al (fun b_ => ?_) | refine sr rfl ?_ | refine la rfl ?_ | refine ixa rfl rfl ?_ | refine fe ?_ | refine lde rfl ?_ | refine lae rfl ?_ | refine fa ?_ | refine bld ?_ | refine mf2 ?_ | refine seq ?_ | refine sne ?_ | refine cc ?_ | refine ixb ?_ | refine slb ?_ | refine slbl ?_ | refine slbh ?_ | refine cv ?_ | refine mx ?_ | refine mn ?_ | refine ml ?_ | refine af_ ?_ | (refine gd (fun hc => ?_) (fun hc => ?_) <;> try (exfalso; omega)) | (refine gn (fun hc => ?_) (fun hc => ?_) <;> try (exfalso; omega)) | refine aw ?_ | refine pes ?_ | refine pns ?_ | refine sw ?_ | refine ng ?_ | refine aeq ?_ | refine ane ?_ | refine sli rfl ?_ | refine slil rfl ?_ | refine slih rfl ?_ | refine cb (fun hc => ?_) (fun hc => ?_) | refine gs (fun hc => ?_) (fun hc => ?_) | refine J_draw (id := 11) [(0, true, []), (1, true, []), (2, true, []), (3, true, []), (4, true, []), (5, true, []), (6, true, []), (7, true, []), (8, true, []), (9, true, []), (10, true, [])] (by kernel_rfl) ?_ | refine J_draw2 (id := 16) [(0, true, []), (1, true, []), (3, true, []), (4, true, []), (5, true, []), (6, true, []), (2, false, [0, 3, 4, 5, 6]), (7, false, [0, 1]), (8, false, [0]), (9, true, []), (10, true, []), (11, false, [])] [(0, true, []), (1, true, []), (3, true, []), (4, true, []), (5, true, []), (6, true, []), (7, false, [0, 1]), (2, false, [0, 3, 4, 5, 6]), (8, false, [0]), (9, true, []), (10, true, []), (11, false, [])] (by kernel_rfl) ?_ ?_ | refine J_draw (id := 17) [(0, true, []), (1, true, []), (2, true, []), (3, true, []), (4, true, []), (5, true, []), (6, true, []), (7, true, []), (8, true, []), (9, false, []), (10, true, [])] (by kernel_rfl) ?_ | refine JS_cons rfl rfl (RO_move rfl) ?_ | refine JS_cons rfl rfl (RO_nilCheck rfl) ?_ | refine JS_cons rfl rfl (RO_fieldAddr0 rfl) ?_ | refine JS_cons rfl rfl (RO_load rfl (by rfl)) ?_ | refine JS_off rfl ?_ | refine JS_cons rfl rfl (RO_extract rfl rfl) ?_ | refine JS_cons rfl rfl (RO_not rfl) ?_ | refine JS_cons rfl rfl (RO_fieldAddr rfl) ?_ | refine JS_cons rfl rfl (RO_lnb rfl) ?_ | refine JS_cons rfl rfl (RO_lls rfl) ?_ | refine JS_cons rfl rfl (RO_add_in rfl rfl (by omega)) ?_ | refine JS_cons rfl rfl (RO_sub_in rfl rfl (by omega)) ?_ | refine JS_cons rfl rfl (RO_ixa rfl rfl (by omega)) ?_ | refine JS_cons rfl rfl (RO_fe rfl) ?_ | refine JS_cons rfl rfl (RO_lde rfl (by omega) rfl) ?_ | refine JS_cons rfl rfl (RO_slih rfl rfl (by omega)) ?_ | refine JS_cons rfl rfl (RO_slil rfl rfl (by omega)) ?_ | refine JS_offu rfl ?_ | refine JS_cons rfl rfl (RO_cc rfl rfl (by omega)) ?_ | refine JS_cons rfl rfl (RO_bld rfl (by (repeat (first | exact FillS.nil | (apply FillS.cons; rfl; rfl; constructor; rfl; (focus repeat constructor)))))) ?_ | refine JS_cons rfl rfl (RO_lae rfl (by omega) (by repeat constructor)) ?_ | refine JS_cons rfl rfl (RO_loadAgg rfl (by repeat constructor)) ?_)
  · have hi' : i < l.length := by omega
    exact ag (again (i + 1, (i : Int) + 1, v3, X ++ [entText (l.getD i .none)]) ⟨by dsimp only; omega, hi', by dsimp only; rw [hX, List.take_succ_eq_append_getElem hi', List.map_append, getD_of hi']; rfl⟩ (by dsimp only; omega))
  · have h2 : l = [] := List.length_eq_zero_iff.1 (by omega)
    have h3 : h = W.hard := by
      have h4 : eqCells [.int .i64 h.term, .int .i64 h.vote] [.int .i64 W.hard.term, .int .i64 W.hard.vote] = true := by assumption
      rw [eqH] at h4; exact of_decide_eq_true h4
    have e : W.save D h l = (0, W, D) := by unfold LogS.save; rw [if_neg hc1, if_pos ⟨h2, h3⟩]
    rw [e]
    refine rt ?_
    exact ⟨_, ⟨_, _, rfl, rfl⟩, _, by repeat constructor⟩
  all_goals first | (exfalso; exact hm ⟨by assumption, by assumption⟩) | skip
  all_goals
    have hil : i = l.length := by omega
    have hne : ¬ (l = [] ∧ h = W.hard) := by
      rintro ⟨rfl, rfl⟩
      first
        | exact absurd rfl (by assumption)
        | (have h4 : eqCells [.int .i64 W.hard.term, .int .i64 W.hard.vote] [.int .i64 W.hard.term, .int .i64 W.hard.vote] = false := (by assumption)
           rw [eqH] at h4; simp at h4)
        | (exfalso; simp_all)
    rw [hil, List.take_length] at hX
    subst hX
    generalize hte : (!eqCells [.int .i64 h.term, .int .i64 h.vote] [.int .i64 W.hard.term, .int .i64 W.hard.vote]) = tell
    rw [hte] at htell
    have hps : ∀ p ∈ l.map entText, p.length ≤ 65536 := fun p hp => by
      obtain ⟨e, he, rfl⟩ := List.mem_map.1 hp
      have h2 := hli e he
      have := entText_len h2.1 h2.2
      omega
    have hbg : begun W.segs = W.segs := if_neg hm
    have hq : (tell = true ∨ (lastS W.segs).size = 0) ∨ l.map entText ≠ [] := by
      by_cases h2 : l = []
      · left; left
        rw [htell]; simp; exact fun h3 => hne ⟨h2, h3⟩
      · right; simpa using h2
    have gS : W.segs ≠ [] := hS
    have gl : (W.segs).length ≤ 100000 := (by omega)
    have gn0 : 0 ≤ (lastS W.segs).number := hn0
    have gn1 : (lastS W.segs).number < 100 := (by omega)
    have gz0 : 0 ≤ (lastS W.segs).size := hz0
    have gz1 : (lastS W.segs).size ≤ 100000000 := hz1
    have kS : layS W.segs D h tell (l.map entText) ≠ [] := ne_of_len (layS_len _ _ _ _ _) gS
    have kl : (layS W.segs D h tell (l.map entText)).length ≤ 100000 := by rw [layS_len]; exact gl
    have kn0 : 0 ≤ (lastS (layS W.segs D h tell (l.map entText))).number := by rw [layS_num gS]; exact gn0
    have kn1 : (lastS (layS W.segs D h tell (l.map entText))).number < 100 := by rw [layS_num gS]; exact gn1
    repeat' (first | (refine cl (lay_tr w d m W.hard ev sv pv W.segs D hD h hh tell (l.map entText) hps (by rw [List.length_map]; exact hl) gS gl gn0 gn1 gz0 gz1 hq) ?_; rintro r Γ' ⟨rfl, rfl⟩; refine n4 ?_) | (refine cl (still_tr w d m W.hard ev sv sv (layS W.segs D h tell (l.map entText)) (layD W.segs D h tell (l.map entText)) (layD_ok hD _ _ _ _) kS kl kn0 kn1) ?_; rintro r Γ' ⟨hr, rfl⟩; refine n4 ?_; (replace hr : r = sv := by rw [hr]; exact ite_self _); subst hr) | refine sro rfl rfl ?_ | refine mv ?_ | refine asn ?_ | refine jn ?_ | refine nl ?_ | refine ld rfl ?_ | refine nc ?_ | refine f0 ?_ | refine xt2 ?_ | refine sq ?_ | refine rg ?_ | refine lnb ?_ | refine lls rfl ?_ | refine ad ?_ | refine sb ?_ | refine lss ?_ | refine eql ?_ | refine neq ?_ | refine gtr ?_ | refine geq ?_ | refine leq ?_ | refine nt ?_ | refine pen ?_ | refine pnn ?_ | refine p1 ?_ | refine p0 ?_ | refine sk2 ?_ | refine kp ?_ | refine ct ?_ | refine cf ?_ | (refine cd (fun hc => ?_) (fun hc => ?_) <;> try (exfalso; omega)) | (refine cn (fun hc => ?_) (fun hc => ?_) <;> try (exfalso; omega)) | refine bl ?_ | refine ib ?_ | refine xt ?_ | refine bx (fun b_ => ?_) | refine al (fun b_ => ?_) | refine sr rfl ?_ | refine la rfl ?_ | refine ixa rfl rfl ?_ | refine fe ?_ | refine lde rfl ?_ | refine lae rfl ?_ | refine fa ?_ | refine bld ?_ | refine mf2 ?_ | refine seq ?_ | refine sne ?_ | refine cc ?_ | refine ixb ?_ | refine slb ?_ | refine slbl ?_ | refine slbh ?_ | refine cv ?_ | refine mx ?_ | refine mn ?_ | refine ml ?_ | refine af_ ?_ | (refine gd (fun hc => ?_) (fun hc => ?_) <;> try (exfalso; omega)) | (refine gn (fun hc => ?_) (fun hc => ?_) <;> try (exfalso; omega)) | refine aw ?_ | refine pes ?_ | refine pns ?_ | refine sw ?_ | refine ng ?_ | refine aeq ?_ | refine ane ?_ | refine sli rfl ?_ | refine slil rfl ?_ | refine slih rfl ?_ | refine cb (fun hc => ?_) (fun hc => ?_) | refine gs (fun hc => ?_) (fun hc => ?_) | refine J_draw (id := 11) [(0, true, []), (1, true, []), (2, true, []), (3, true, []), (4, true, []), (5, true, []), (6, true, []), (7, true, []), (8, true, []), (9, true, []), (10, true, [])] (by kernel_rfl) ?_ | refine J_draw2 (id := 16) [(0, true, []), (1, true, []), (3, true, []), (4, true, []), (5, true, []), (6, true, []), (2, false, [0, 3, 4, 5, 6]), (7, false, [0, 1]), (8, false, [0]), (9, true, []), (10, true, []), (11, false, [])] [(0, true, []), (1, true, []), (3, true, []), (4, true, []), (5, true, []), (6, true, []), (7, false, [0, 1]), (2, false, [0, 3, 4, 5, 6]), (8, false, [0]), (9, true, []), (10, true, []), (11, false, [])] (by kernel_rfl) ?_ ?_ | refine J_draw (id := 17) [(0, true, []), (1, true, []), (2, true, []), (3, true, []), (4, true, []), (5, true, []), (6, true, []), (7, true, []), (8, true, []), (9, false, []), (10, true, [])] (by kernel_rfl) ?_ | refine JS_cons rfl rfl (RO_move rfl) ?_ | refine JS_cons rfl rfl (RO_nilCheck rfl) ?_ | refine JS_cons rfl rfl (RO_fieldAddr0 rfl) ?_ | refine JS_cons rfl rfl (RO_load rfl (by rfl)) ?_ | refine JS_off rfl ?_ | refine JS_cons rfl rfl (RO_extract rfl rfl) ?_ | refine JS_cons rfl rfl (RO_not rfl) ?_ | refine JS_cons rfl rfl (RO_fieldAddr rfl) ?_ | refine JS_cons rfl rfl (RO_lnb rfl) ?_ | refine JS_cons rfl rfl (RO_lls rfl) ?_ | refine JS_cons rfl rfl (RO_add_in rfl rfl (by omega)) ?_ | refine JS_cons rfl rfl (RO_sub_in rfl rfl (by omega)) ?_ | refine JS_cons rfl rfl (RO_ixa rfl rfl (by omega)) ?_ | refine JS_cons rfl rfl (RO_fe rfl) ?_ | refine JS_cons rfl rfl (RO_lde rfl (by omega) rfl) ?_ | refine JS_cons rfl rfl (RO_slih rfl rfl (by omega)) ?_ | refine JS_cons rfl rfl (RO_slil rfl rfl (by omega)) ?_ | refine JS_offu rfl ?_ | refine JS_cons rfl rfl (RO_cc rfl rfl (by omega)) ?_ | refine JS_cons rfl rfl (RO_bld rfl (by (repeat (first | exact FillS.nil | (apply FillS.cons; rfl; rfl; constructor; rfl; (focus repeat constructor)))))) ?_ | refine JS_cons rfl rfl (RO_lae rfl (by omega) (by repeat constructor)) ?_ | refine JS_cons rfl rfl (RO_loadAgg rfl (by repeat constructor)) ?_)
    all_goals first
      | (have hE : layE W.segs D h tell (l.map entText) ≠ 0 := (by assumption)
         have e : W.save D h l = (layE W.segs D h tell (l.map entText), { W with segs := layS W.segs D h tell (l.map entText) }, layD W.segs D h tell (l.map entText)) := (by
           unfold LogS.save
           rw [if_neg hc1, if_neg hne, hbg, ← htell, if_pos hE, if_neg hm])
         rw [e]
         skip
         refine rt ?_
         exact ⟨_, ⟨_, _, rfl, rfl⟩, _, by repeat constructor⟩)
      | skip
    all_goals
      have hE : layE W.segs D h tell (l.map entText) = 0 := by assumption
      have e : W.save D h l = (0, puts ({ W with hard := h, segs := layS W.segs D h tell (l.map entText) } : LogS) l, layD W.segs D h tell (l.map entText)) := by
        unfold LogS.save
        rw [if_neg hc1, if_neg hne, hbg, ← htell, if_neg (by rw [hE]; decide)]
      rw [e]
      refine lp (α := Nat × Int × Value × LogS) (fun y => [(0, .pointer (some ⟨w, 0, none⟩)), (110, lv), (111, .int .i64 l.length), (112, .int .i64 y.2.1)]) (fun y => [blk w (lcell d y.2.2.2.hard y.2.2.1 sv), sl 70 entE lv l, sl 70 entE y.2.2.1 y.2.2.2.ents, sl 94 segE sv y.2.2.2.segs, blk d (dcell m (layD W.segs D h tell (l.map entText))), mp fmap m (layD W.segs D h tell (l.map entText)).files]) (fun y => y.2.1 = (y.1 : Int) ∧ y.1 ≤ l.length ∧ y.2.2.2 = puts ({ W with hard := h, segs := layS W.segs D h tell (l.map entText) } : LogS) (l.take y.1) ∧ PutOk ({ W with hard := h, segs := layS W.segs D h tell (l.map entText) } : LogS) y.2.2.2 y.1) (fun y => l.length - y.1) (0, 0, ev, ({ W with hard := h, segs := layS W.segs D h tell (l.map entText) } : LogS)) ?_ ⟨rfl, Nat.zero_le _, rfl, ⟨hR, Nat.le_refl _, rfl, rfl⟩⟩
      clear again hgd hXg
      rintro ⟨j, n, ev1, V⟩ ⟨hn, hj, hV, hP⟩ again
      dsimp only at hn hj hV hP again ⊢
      subst hn
      have q1 := hP.rise
      have q2 : V.ents.length ≤ 1000000 := by
        have := hP.len
        have e1 : (({ W with hard := h, segs := layS W.segs D h tell (l.map entText) } : LogS)).ents.length = W.ents.length := rfl
        omega
      have q3 : V.segs ≠ [] := ne_of_len hP.slen kS
      have q4 : V.segs.length ≤ 100000 := by rw [hP.slen]; exact kl
      have q5 : j < l.length → (l.getD j .none).In ∧ 0 < (l.getD j .none).index := fun hj => by
        rw [getD_of hj]; exact ⟨(hli _ (List.getElem_mem hj)).1, hpos _ (List.getElem_mem hj)⟩
      repeat' (first | (refine cl (put_tr w d V.hard ev1 sv V.ents V.segs (l.getD j .none) (q5 (by omega)).1 (q5 (by omega)).2 q1 q3 q4 q2) ?_; rintro r Γ' ⟨ev2, rfl⟩; refine n3 ?_) | refine mv ?_ | refine asn ?_ | refine jn ?_ | refine nl ?_ | refine ld rfl ?_ | refine nc ?_ | refine f0 ?_ | refine xt2 ?_ | refine sq ?_ | refine rg ?_ | refine lnb ?_ | refine lls rfl ?_ | refine ad ?_ | refine sb ?_ | refine lss ?_ | refine eql ?_ | refine neq ?_ | refine gtr ?_ | refine geq ?_ | refine leq ?_ | refine nt ?_ | refine pen ?_ | refine pnn ?_ | refine p1 ?_ | refine p0 ?_ | refine sk2 ?_ | refine kp ?_ | refine ct ?_ | refine cf ?_ | (refine cd (fun hc => ?_) (fun hc => ?_) <;> try (exfalso; omega)) | (refine cn (fun hc => ?_) (fun hc => ?_) <;> try (exfalso; omega)) | refine bl ?_ | refine ib ?_ | refine xt ?_ | refine bx (fun b_ => ?_) | refine al (fun b_ => ?_) | refine sr rfl ?_ | refine la rfl ?_ | refine ixa rfl rfl ?_ | refine fe ?_ | refine lde rfl ?_ | refine lae rfl ?_ | refine fa ?_ | refine bld ?_ | refine mf2 ?_ | refine seq ?_ | refine sne ?_ | refine cc ?_ | refine ixb ?_ | refine slb ?_ | refine slbl ?_ | refine slbh ?_ | refine cv ?_ | refine mx ?_ | refine mn ?_ | refine ml ?_ | refine af_ ?_ | (refine gd (fun hc => ?_) (fun hc => ?_) <;> try (exfalso; omega)) | (refine gn (fun hc => ?_) (fun hc => ?_) <;> try (exfalso; omega)) | refine aw ?_ | refine pes ?_ | refine pns ?_ | refine sw ?_ | refine ng ?_ | refine aeq ?_ | refine ane ?_ | refine sli rfl ?_ | refine slil rfl ?_ | refine slih rfl ?_ | refine cb (fun hc => ?_) (fun hc => ?_) | refine gs (fun hc => ?_) (fun hc => ?_) | refine J_draw (id := 11) [(0, true, []), (1, true, []), (2, true, []), (3, true, []), (4, true, []), (5, true, []), (6, true, []), (7, true, []), (8, true, []), (9, true, []), (10, true, [])] (by kernel_rfl) ?_ | refine J_draw2 (id := 16) [(0, true, []), (1, true, []), (3, true, []), (4, true, []), (5, true, []), (6, true, []), (2, false, [0, 3, 4, 5, 6]), (7, false, [0, 1]), (8, false, [0]), (9, true, []), (10, true, []), (11, false, [])] [(0, true, []), (1, true, []), (3, true, []), (4, true, []), (5, true, []), (6, true, []), (7, false, [0, 1]), (2, false, [0, 3, 4, 5, 6]), (8, false, [0]), (9, true, []), (10, true, []), (11, false, [])] (by kernel_rfl) ?_ ?_ | refine J_draw (id := 17) [(0, true, []), (1, true, []), (2, true, []), (3, true, []), (4, true, []), (5, true, []), (6, true, []), (7, true, []), (8, true, []), (9, false, []), (10, true, [])] (by kernel_rfl) ?_ | refine JS_cons rfl rfl (RO_move rfl) ?_ | refine JS_cons rfl rfl (RO_nilCheck rfl) ?_ | refine JS_cons rfl rfl (RO_fieldAddr0 rfl) ?_ | refine JS_cons rfl rfl (RO_load rfl (by rfl)) ?_ | refine JS_off rfl ?_ | refine JS_cons rfl rfl (RO_extract rfl rfl) ?_ | refine JS_cons rfl rfl (RO_not rfl) ?_ | refine JS_cons rfl rfl (RO_fieldAddr rfl) ?_ | refine JS_cons rfl rfl (RO_lnb rfl) ?_ | refine JS_cons rfl rfl (RO_lls rfl) ?_ | refine JS_cons rfl rfl (RO_add_in rfl rfl (by omega)) ?_ | refine JS_cons rfl rfl (RO_sub_in rfl rfl (by omega)) ?_ | refine JS_cons rfl rfl (RO_ixa rfl rfl (by omega)) ?_ | refine JS_cons rfl rfl (RO_fe rfl) ?_ | refine JS_cons rfl rfl (RO_lde rfl (by omega) rfl) ?_ | refine JS_cons rfl rfl (RO_slih rfl rfl (by omega)) ?_ | refine JS_cons rfl rfl (RO_slil rfl rfl (by omega)) ?_ | refine JS_offu rfl ?_ | refine JS_cons rfl rfl (RO_cc rfl rfl (by omega)) ?_ | refine JS_cons rfl rfl (RO_bld rfl (by (repeat (first | exact FillS.nil | (apply FillS.cons; rfl; rfl; constructor; rfl; (focus repeat constructor)))))) ?_ | refine JS_cons rfl rfl (RO_lae rfl (by omega) (by repeat constructor)) ?_ | refine JS_cons rfl rfl (RO_loadAgg rfl (by repeat constructor)) ?_)
      all_goals first
        | (have hj' : j < l.length := (by omega)
           exact ag (again (j + 1, (j : Int) + 1, ev2, V.put (l.getD j .none)) ⟨(by dsimp only; omega), hj', (by dsimp only; rw [hV, puts_take hj']), hP.put (q5 hj').1 (q5 hj').2⟩ (by dsimp only; omega)))
        | (have hjl : j = l.length := (by omega)
           rw [hjl, List.take_length] at hV
           subst hV
           refine rt ?_
           exact ⟨_, ⟨_, _, rfl, rfl⟩, _, by repeat constructor⟩)
end Go.Proofs.YtaeefjcbmkiiaaaGreatDoor
