/- The log: a save behind which a segment is begun; any save. -/
import Derived.Test.YtaeefjcbmkiiaaaGreatDoorW6
namespace Go.Proofs.YtaeefjcbmkiiaaaGreatDoor
open Go Sl
attribute [local irreducible] J JR JS RO CR Arr Sat Tr sat blk
set_option linter.unusedVariables false
set_option maxHeartbeats 800000
set_option maxRecDepth 4000
theorem save_more (w d m : Nat) (lv : Value) (W : LogS) (ev sv : Value) (D : DiskS) (hD : D.Ok) (h : Hrd) (hh : h.In) (l : List Ent) (hl : l.length ≤ 100) (hli : ∀ e ∈ l, e.In ∧ e.data.length ≤ 60000) (h0 : 0 ≤ h.term) (h1 : 0 ≤ h.vote) (hany : (l.any fun e => !e.right) = false)
    (hS : W.segs ≠ []) (hSl : W.segs.length ≤ 1000) (hn0 : 0 ≤ (lastS W.segs).number) (hn1 : (lastS W.segs).number < 99) (hz0 : 0 ≤ (lastS W.segs).size) (hz1 : (lastS W.segs).size ≤ 100000000) (hR : Rise W.ents) (hLl : W.ents.length ≤ 100000) (hm : more W.segs) :
    Tr Tryz.prog 31 [.pointer (some ⟨w, 0, none⟩), hrdV h, lv] [sl 70 entE lv l, blk w (lcell d W.hard ev sv), sl 70 entE ev W.ents, sl 94 segE sv W.segs, blk d (dcell m D), mp fmap m D.files]
      fun v Γ => ∃ ev' sv', v = .int .i64 (W.save D h l).1 ∧ Γ = [blk w (lcell d (W.save D h l).2.1.hard ev' sv'), sl 70 entE ev' (W.save D h l).2.1.ents, sl 94 segE sv' (W.save D h l).2.1.segs, blk d (dcell m (W.save D h l).2.2), mp fmap m (W.save D h l).2.2.files] := by
  have hlast : 0 < W.segs.length := List.length_pos_iff.2 hS
  have hn0r : 0 ≤ (W.segs.getD (((W.segs.length : Nat) : Int) - 1).toNat segE.dflt).number := hn0
  have hn1r : (W.segs.getD (((W.segs.length : Nat) : Int) - 1).toNat segE.dflt).number < 99 := hn1
  have hc1 : ¬ (h.term < 0 ∨ h.vote < 0 ∨ (l.any fun e => !e.right) = true) := by rw [hany]; simp; omega
  have hpos : ∀ e ∈ l, 0 < e.index := fun e he => by
    have := List.any_eq_false.1 hany e he
    have hr : e.right = true := by simpa using this
    simp only [Ent.right, Bool.and_eq_true, decide_eq_true_eq] at hr
    exact hr.1.1.1
  have htell : (!eqCells [.int .i64 h.term, .int .i64 h.vote] [.int .i64 W.hard.term, .int .i64 W.hard.vote]) = decide (h ≠ W.hard) := by rw [eqH]; simp
  refine Tr_of_J Tryz.func31 follows rfl Tryz.ntmps31 (by simp) fun B F => ?_
  repeat' (first | (refine cl (containsFunc0_tr lv l (by omega) hany) ?_; rintro r Γ' ⟨rfl, rfl⟩; refine n1 ?_) | refine mv ?_ | refine asn ?_ | refine jn ?_ | refine nl ?_ | refine ld rfl ?_ | refine nc ?_ | refine f0 ?_ | refine xt2 ?_ | refine sq ?_ | refine rg ?_ | refine lnb ?_ | refine lls rfl ?_ | refine ad ?_ | refine sb ?_ | refine lss ?_ | refine eql ?_ | refine neq ?_ | refine gtr ?_ | refine geq ?_ | refine leq ?_ | refine nt ?_ | refine pen ?_ | refine pnn ?_ | refine p1 ?_ | refine p0 ?_ | refine sk2 ?_ | refine kp ?_ | refine ct ?_ | refine cf ?_ | (refine cd (fun hc => ?_) (fun hc => ?_) <;> try (exfalso; omega)) | (refine cn (fun hc => ?_) (fun hc => ?_) <;> try (exfalso; omega)) | refine bl ?_ | refine ib ?_ | refine xt ?_ | refine bx (fun b_ => ?_) | refine al (fun b_ => ?_) | refine sr rfl ?_ | refine la rfl ?_ | refine ixa rfl rfl ?_ | refine fe ?_ | refine lde rfl ?_ | refine lae rfl ?_ | refine fa ?_ | refine bld ?_ | refine mf2 ?_ | refine seq ?_ | refine sne ?_ | refine cc ?_ | refine ixb ?_ | refine slb ?_ | refine slbl ?_ | refine slbh ?_ | refine cv ?_ | refine mx ?_ | refine mn ?_ | refine ml ?_ | refine af_ ?_ | (refine gd (fun hc => ?_) (fun hc => ?_) <;> try (exfalso; omega)) | (refine gn (fun hc => ?_) (fun hc => ?_) <;> try (exfalso; omega)) | refine aw ?_ | refine pes ?_ | refine pns ?_ | refine sw ?_ | refine ng ?_ | refine aeq ?_ | refine ane ?_ | refine sli rfl ?_ | refine slil rfl ?_ | refine slih rfl ?_ | refine cb (fun hc => ?_) (fun hc => ?_) | refine gs (fun hc => ?_) (fun hc => ?_) | refine J_draw (id := 11) [(0, true, []), (1, true, []), (2, true, []), (3, true, []), (4, true, []), (5, true, []), (6, true, []), (7, true, []), (8, true, []), (9, true, []), (10, true, [])] (by kernel_rfl) ?_ | refine J_draw2 (id := 16) [(0, true, []), (1, true, []), (3, true, []), (4, true, []), (5, true, []), (6, true, []), (2, false, [0, 3, 4, 5, 6]), (7, false, [0, 1]), (8, false, [0]), (9, true, []), (10, true, []), (11, false, [])] [(0, true, []), (1, true, []), (3, true, []), (4, true, []), (5, true, []), (6, true, []), (7, false, [0, 1]), (2, false, [0, 3, 4, 5, 6]), (8, false, [0]), (9, true, []), (10, true, []), (11, false, [])] (by kernel_rfl) ?_ ?_ | refine J_draw (id := 17) [(0, true, []), (1, true, []), (2, true, []), (3, true, []), (4, true, []), (5, true, []), (6, true, []), (7, true, []), (8, true, []), (9, false, []), (10, true, [])] (by kernel_rfl) ?_ | refine JS_cons rfl rfl (RO_move rfl) ?_ | refine JS_cons rfl rfl (RO_nilCheck rfl) ?_ | refine JS_cons rfl rfl (RO_fieldAddr0 rfl) ?_ | refine JS_cons rfl rfl (RO_load rfl (by rfl)) ?_ | refine JS_off rfl ?_ | refine JS_cons rfl rfl (RO_extract rfl rfl) ?_ | refine JS_cons rfl rfl (RO_not rfl) ?_ | refine JS_cons rfl rfl (RO_fieldAddr rfl) ?_ | refine JS_cons rfl rfl (RO_lnb rfl) ?_ | refine JS_cons rfl rfl (RO_lls rfl) ?_ | refine JS_cons rfl rfl (RO_add_in rfl rfl (by omega)) ?_ | refine JS_cons rfl rfl (RO_sub_in rfl rfl (by omega)) ?_ | refine JS_cons rfl rfl (RO_ixa rfl rfl (by omega)) ?_ | refine JS_cons rfl rfl (RO_fe rfl) ?_ | refine JS_cons rfl rfl (RO_lde rfl (by omega) rfl) ?_ | refine JS_cons rfl rfl (RO_slih rfl rfl (by omega)) ?_ | refine JS_cons rfl rfl (RO_slil rfl rfl (by omega)) ?_ | refine JS_offu rfl ?_ | refine JS_cons rfl rfl (RO_cc rfl rfl (by omega)) ?_ | refine JS_cons rfl rfl (RO_bld rfl (by (repeat (first | exact FillS.nil | (apply FillS.cons; rfl; rfl; constructor; rfl; (focus repeat constructor)))))) ?_ | refine JS_cons rfl rfl (RO_lae rfl (by omega) (by repeat constructor)) ?_ | refine JS_cons rfl rfl (RO_loadAgg rfl (by repeat constructor)) ?_)
  refine J_sat (Γ' := sl 9 strE (.slice none 0 0) [] :: _) ?_ fun w hS => sl_nil hS
  refine lp (α := Nat × Int × Value × List (List UInt8)) (fun y => [(0, .pointer (some ⟨w, 0, none⟩)), (2, lv), (4, .pointer (some ⟨b_, 0, none⟩)), (7, y.2.2.1), (27, lv), (28, .int .i64 l.length), (29, .int .i64 y.2.1)]) (fun y => [sl 9 strE y.2.2.1 y.2.2.2, blk b_ (.cells ⟨[.int .i64 h.term, .int .i64 h.vote]⟩ 50 (0, 0)), sl 70 entE lv l, blk w (lcell d W.hard ev sv), sl 70 entE ev W.ents, sl 94 segE sv W.segs, blk d (dcell m D), mp fmap m D.files]) (fun y => y.2.1 = (y.1 : Int) ∧ y.1 ≤ l.length ∧ y.2.2.2 = (l.take y.1).map entText) (fun y => l.length - y.1) (0, 0, .slice none 0 0, []) ?_ ⟨rfl, Nat.zero_le _, rfl⟩
  rintro ⟨i, n, pv, X⟩ ⟨hn, hi, hX⟩ again
  dsimp only at hn hi hX again ⊢
  subst hn
  have hXl : X.length ≤ 100 := by rw [hX, List.length_map, List.length_take]; omega
  have hgd : i < l.length → (l.getD i .none).In ∧ (l.getD i .none).data.length ≤ 60000 := fun hi => by
    rw [getD_of hi]; exact hli _ (List.getElem_mem hi)
  have hXe : (X ++ [entText (l.getD i .none)]).length = X.length + 1 := by simp
  have hXg : i < l.length → ((X ++ [entText (l.getD i .none)]).getD ((((X ++ [entText (l.getD i .none)]).length : Nat) : Int) - 1).toNat strE.dflt).length ≤ 65536 := fun hi => by
    have e : ((((X ++ [entText (l.getD i .none)]).length : Nat) : Int) - 1).toNat = X.length := by rw [hXe]; omega
    rw [e]
    have := entText_len (hgd hi).1 (hgd hi).2
    have := (hgd hi).2
    rw [getD_last]; omega
  repeat' (first | (refine cl (entText_tr (l.getD i .none) (hgd (by omega)).1 (by have := (hgd (by omega)).2; omega)) ?_; rintro r Γ' ⟨rfl, rfl⟩; refine n0 ?_) | refine bsl (e := strE) (X := [entText (l.getD i .none)]) (fun v2 => ?_) (.cona rfl rfl .nil) | refine apo rfl rfl (fun v3 => ?_) (by simp; omega) (by simp; omega) | (refine cl (cloneS_tr sv W.segs (by omega)) ?_; rintro r6 Γ' rfl; refine n2 ?_) | refine bsl (e := segE) (X := [⟨(lastS W.segs).number + 1, 0, 0⟩]) (fun v5 => ?_) (.cona rfl rfl .nil) | refine sro rfl rfl ?_ | refine mv ?_ | refine asn ?_ | refine jn ?_ | refine nl ?_ | refine ld rfl ?_ | refine nc ?_ | refine f0 ?_ | refine xt2 ?_ | refine sq ?_ | refine rg ?_ | refine lnb ?_ | refine lls rfl ?_ | refine ad ?_ | refine sb ?_ | refine lss ?_ | refine eql ?_ | refine neq ?_ | refine gtr ?_ | refine geq ?_ | refine leq ?_ | refine nt ?_ | refine pen ?_ | refine pnn ?_ | refine p1 ?_ | refine p0 ?_ | refine sk2 ?_ | refine kp ?_ | refine ct ?_ | refine cf ?_ | (refine cd (fun hc => ?_) (fun hc => ?_) <;> try (exfalso; omega)) | (refine cn (fun hc => ?_) (fun hc => ?_) <;> try (exfalso; omega)) | refine bl ?_ | refine ib ?_ | refine xt ?_ | refine bx (fun b_ => ?_) | refine al (fun b_ => ?_) | refine sr rfl ?_ | refine la rfl ?_ | refine ixa rfl rfl ?_ | refine fe ?_ | refine lde rfl ?_ | refine lae rfl ?_ | refine fa ?_ | refine bld ?_ | refine mf2 ?_ | refine seq ?_ | refine sne ?_ | refine cc ?_ | refine ixb ?_ | refine slb ?_ | refine slbl ?_ | refine slbh ?_ | refine cv ?_ | refine mx ?_ | refine mn ?_ | refine ml ?_ | refine af_ ?_ | (refine gd (fun hc => ?_) (fun hc => ?_) <;> try (exfalso; omega)) | (refine gn (fun hc => ?_) (fun hc => ?_) <;> try (exfalso; omega)) | refine aw ?_ | refine pes ?_ | refine pns ?_ | refine sw ?_ | refine ng ?_ | refine aeq ?_ | refine ane ?_ | refine sli rfl ?_ | refine slil rfl ?_ | refine slih rfl ?_ | refine cb (fun hc => ?_) (fun hc => ?_) | refine gs (fun hc => ?_) (fun hc => ?_) | refine J_draw (id := 11) [(0, true, []), (1, true, []), (2, true, []), (3, true, []), (4, true, []), (5, true, []), (6, true, []), (7, true, []), (8, true, []), (9, true, []), (10, true, [])] (by kernel_rfl) ?_ | refine J_draw2 (id := 16) [(0, true, []), (1, true, []), (3, true, []), (4, true, []), (5, true, []), (6, true, []), (2, false, [0, 3, 4, 5, 6]), (7, false, [0, 1]), (8, false, [0]), (9, true, []), (10, true, []), (11, false, [])] [(0, true, []), (1, true, []), (3, true, []), (4, true, []), (5, true, []), (6, true, []), (7, false, [0, 1]), (2, false, [0, 3, 4, 5, 6]), (8, false, [0]), (9, true, []), (10, true, []), (11, false, [])] (by kernel_rfl) ?_ ?_ | refine J_draw (id := 17) [(0, true, []), (1, true, []), (2, true, []), (3, true, []), (4, true, []), (5, true, []), (6, true, []), (7, true, []), (8, true, []), (9, false, []), (10, true, [])] (by kernel_rfl) ?_ | refine JS_cons rfl rfl (RO_move rfl) ?_ | refine JS_cons rfl rfl (RO_nilCheck rfl) ?_ | refine JS_cons rfl rfl (RO_fieldAddr0 rfl) ?_ | refine JS_cons rfl rfl (RO_load rfl (by rfl)) ?_ | refine JS_off rfl ?_ | refine JS_cons rfl rfl (RO_extract rfl rfl) ?_ | refine JS_cons rfl rfl (RO_not rfl) ?_ | refine JS_cons rfl rfl (RO_fieldAddr rfl) ?_ | refine JS_cons rfl rfl (RO_lnb rfl) ?_ | refine JS_cons rfl rfl (RO_lls rfl) ?_ | refine JS_cons rfl rfl (RO_add_in rfl rfl (by omega)) ?_ | refine JS_cons rfl rfl (RO_sub_in rfl rfl (by omega)) ?_ | refine JS_cons rfl rfl (RO_ixa rfl rfl (by omega)) ?_ | refine JS_cons rfl rfl (RO_fe rfl) ?_ | refine JS_cons rfl rfl (RO_lde rfl (by omega) rfl) ?_ | refine JS_cons rfl rfl (RO_slih rfl rfl (by omega)) ?_ | refine JS_cons rfl rfl (RO_slil rfl rfl (by omega)) ?_ | refine JS_offu rfl ?_ | refine JS_cons rfl rfl (RO_cc rfl rfl (by omega)) ?_ | refine JS_cons rfl rfl (RO_bld rfl (by (repeat (first | exact FillS.nil | (apply FillS.cons; rfl; rfl; constructor; rfl; (focus repeat constructor)))))) ?_ | refine JS_cons rfl rfl (RO_lae rfl (by omega) (by repeat constructor)) ?_ | refine JS_cons rfl rfl (RO_loadAgg rfl (by repeat constructor)) ?_)
  · have hi' : i < l.length := by omega
    exact ag (again (i + 1, (i : Int) + 1, v3, X ++ [entText (l.getD i .none)]) ⟨by dsimp only; omega, hi', by dsimp only; rw [hX, List.take_succ_eq_append_getElem hi', List.map_append, getD_of hi']; rfl⟩ (by dsimp only; omega))
  · have h2 : l = [] := List.length_eq_zero_iff.1 (by omega)
    have h3 : h = W.hard := by
      have h4 : eqCells [.int .i64 h.term, .int .i64 h.vote] [.int .i64 W.hard.term, .int .i64 W.hard.vote] = true := by assumption
      rw [eqH] at h4; exact of_decide_eq_true h4
    have e : W.save D h l = (0, W, D) := by unfold LogS.save; rw [if_neg hc1, if_pos ⟨h2, h3⟩]
    rw [e]
    refine rt ?_
    exact ⟨_, ⟨_, _, rfl, rfl⟩, _, by repeat constructor⟩
  all_goals first | (exfalso; first | exact absurd hm.1 (by assumption) | exact absurd hm.2 (by assumption)) | skip
  all_goals
    have hil : i = l.length := by omega
    have hne : ¬ (l = [] ∧ h = W.hard) := by
      rintro ⟨rfl, rfl⟩
      first
        | exact absurd rfl (by assumption)
        | (have h4 : eqCells [.int .i64 W.hard.term, .int .i64 W.hard.vote] [.int .i64 W.hard.term, .int .i64 W.hard.vote] = false := (by assumption)
           rw [eqH] at h4; simp at h4)
        | (exfalso; simp_all)
    rw [hil, List.take_length] at hX
    subst hX
    generalize hte : (!eqCells [.int .i64 h.term, .int .i64 h.vote] [.int .i64 W.hard.term, .int .i64 W.hard.vote]) = tell
    rw [hte] at htell
    have hps : ∀ p ∈ l.map entText, p.length ≤ 65536 := fun p hp => by
      obtain ⟨e, he, rfl⟩ := List.mem_map.1 hp
      have h2 := hli e he
      have := entText_len h2.1 h2.2
      omega
    have hbg : begun W.segs = (next W.segs) := if_pos hm
    have hq : (tell = true ∨ (lastS (next W.segs)).size = 0) ∨ l.map entText ≠ [] := by
      by_cases h2 : l = []
      · left; left
        rw [htell]; simp; exact fun h3 => hne ⟨h2, h3⟩
      · right; simpa using h2
    have gS : (next W.segs) ≠ [] := (by simp [next])
    have gl : ((next W.segs)).length ≤ 100000 := (by simp [next]; omega)
    have gn0 : 0 ≤ (lastS (next W.segs)).number := (by rw [next_last]; show 0 ≤ (lastS W.segs).number + 1; omega)
    have gn1 : (lastS (next W.segs)).number < 100 := (by rw [next_last]; show (lastS W.segs).number + 1 < 100; omega)
    have gz0 : 0 ≤ (lastS (next W.segs)).size := (by rw [next_last]; exact Int.le_refl 0)
    have gz1 : (lastS (next W.segs)).size ≤ 100000000 := (by rw [next_last]; show (0 : Int) ≤ _; omega)
    have kS : layS (next W.segs) D h tell (l.map entText) ≠ [] := ne_of_len (layS_len _ _ _ _ _) gS
    have kl : (layS (next W.segs) D h tell (l.map entText)).length ≤ 100000 := by rw [layS_len]; exact gl
    have kn0 : 0 ≤ (lastS (layS (next W.segs) D h tell (l.map entText))).number := by rw [layS_num gS]; exact gn0
    have kn1 : (lastS (layS (next W.segs) D h tell (l.map entText))).number < 100 := by rw [layS_num gS]; exact gn1
    repeat' (first | (refine cl (lay_tr w d m W.hard ev v3 pv (next W.segs) D hD h hh tell (l.map entText) hps (by rw [List.length_map]; exact hl) gS gl gn0 gn1 gz0 gz1 hq) ?_; rintro r Γ' ⟨rfl, rfl⟩; refine n4 ?_) | (refine cl (still_tr w d m W.hard ev v3 sv (layS (next W.segs) D h tell (l.map entText)) (layD (next W.segs) D h tell (l.map entText)) (layD_ok hD _ _ _ _) kS kl kn0 kn1) ?_; rintro r Γ' ⟨hr, rfl⟩; refine n4 ?_; rcases ite_or hr with ⟨hk, rfl⟩ | ⟨hk, rfl⟩) | refine sro rfl rfl ?_ | refine mv ?_ | refine asn ?_ | refine jn ?_ | refine nl ?_ | refine ld rfl ?_ | refine nc ?_ | refine f0 ?_ | refine xt2 ?_ | refine sq ?_ | refine rg ?_ | refine lnb ?_ | refine lls rfl ?_ | refine ad ?_ | refine sb ?_ | refine lss ?_ | refine eql ?_ | refine neq ?_ | refine gtr ?_ | refine geq ?_ | refine leq ?_ | refine nt ?_ | refine pen ?_ | refine pnn ?_ | refine p1 ?_ | refine p0 ?_ | refine sk2 ?_ | refine kp ?_ | refine ct ?_ | refine cf ?_ | (refine cd (fun hc => ?_) (fun hc => ?_) <;> try (exfalso; omega)) | (refine cn (fun hc => ?_) (fun hc => ?_) <;> try (exfalso; omega)) | refine bl ?_ | refine ib ?_ | refine xt ?_ | refine bx (fun b_ => ?_) | refine al (fun b_ => ?_) | refine sr rfl ?_ | refine la rfl ?_ | refine ixa rfl rfl ?_ | refine fe ?_ | refine lde rfl ?_ | refine lae rfl ?_ | refine fa ?_ | refine bld ?_ | refine mf2 ?_ | refine seq ?_ | refine sne ?_ | refine cc ?_ | refine ixb ?_ | refine slb ?_ | refine slbl ?_ | refine slbh ?_ | refine cv ?_ | refine mx ?_ | refine mn ?_ | refine ml ?_ | refine af_ ?_ | (refine gd (fun hc => ?_) (fun hc => ?_) <;> try (exfalso; omega)) | (refine gn (fun hc => ?_) (fun hc => ?_) <;> try (exfalso; omega)) | refine aw ?_ | refine pes ?_ | refine pns ?_ | refine sw ?_ | refine ng ?_ | refine aeq ?_ | refine ane ?_ | refine sli rfl ?_ | refine slil rfl ?_ | refine slih rfl ?_ | refine cb (fun hc => ?_) (fun hc => ?_) | refine gs (fun hc => ?_) (fun hc => ?_) | refine J_draw (id := 11) [(0, true, []), (1, true, []), (2, true, []), (3, true, []), (4, true, []), (5, true, []), (6, true, []), (7, true, []), (8, true, []), (9, true, []), (10, true, [])] (by kernel_rfl) ?_ | refine J_draw2 (id := 16) [(0, true, []), (1, true, []), (3, true, []), (4, true, []), (5, true, []), (6, true, []), (2, false, [0, 3, 4, 5, 6]), (7, false, [0, 1]), (8, false, [0]), (9, true, []), (10, true, []), (11, false, [])] [(0, true, []), (1, true, []), (3, true, []), (4, true, []), (5, true, []), (6, true, []), (7, false, [0, 1]), (2, false, [0, 3, 4, 5, 6]), (8, false, [0]), (9, true, []), (10, true, []), (11, false, [])] (by kernel_rfl) ?_ ?_ | refine J_draw (id := 17) [(0, true, []), (1, true, []), (2, true, []), (3, true, []), (4, true, []), (5, true, []), (6, true, []), (7, true, []), (8, true, []), (9, false, []), (10, true, [])] (by kernel_rfl) ?_ | refine JS_cons rfl rfl (RO_move rfl) ?_ | refine JS_cons rfl rfl (RO_nilCheck rfl) ?_ | refine JS_cons rfl rfl (RO_fieldAddr0 rfl) ?_ | refine JS_cons rfl rfl (RO_load rfl (by rfl)) ?_ | refine JS_off rfl ?_ | refine JS_cons rfl rfl (RO_extract rfl rfl) ?_ | refine JS_cons rfl rfl (RO_not rfl) ?_ | refine JS_cons rfl rfl (RO_fieldAddr rfl) ?_ | refine JS_cons rfl rfl (RO_lnb rfl) ?_ | refine JS_cons rfl rfl (RO_lls rfl) ?_ | refine JS_cons rfl rfl (RO_add_in rfl rfl (by omega)) ?_ | refine JS_cons rfl rfl (RO_sub_in rfl rfl (by omega)) ?_ | refine JS_cons rfl rfl (RO_ixa rfl rfl (by omega)) ?_ | refine JS_cons rfl rfl (RO_fe rfl) ?_ | refine JS_cons rfl rfl (RO_lde rfl (by omega) rfl) ?_ | refine JS_cons rfl rfl (RO_slih rfl rfl (by omega)) ?_ | refine JS_cons rfl rfl (RO_slil rfl rfl (by omega)) ?_ | refine JS_offu rfl ?_ | refine JS_cons rfl rfl (RO_cc rfl rfl (by omega)) ?_ | refine JS_cons rfl rfl (RO_bld rfl (by (repeat (first | exact FillS.nil | (apply FillS.cons; rfl; rfl; constructor; rfl; (focus repeat constructor)))))) ?_ | refine JS_cons rfl rfl (RO_lae rfl (by omega) (by repeat constructor)) ?_ | refine JS_cons rfl rfl (RO_loadAgg rfl (by repeat constructor)) ?_)
    all_goals first
      | (have hE : layE (next W.segs) D h tell (l.map entText) ≠ 0 := (by assumption)
         have e : W.save D h l = (layE (next W.segs) D h tell (l.map entText), { W with segs := there (layD (next W.segs) D h tell (l.map entText)) W.segs (layS (next W.segs) D h tell (l.map entText)) }, layD (next W.segs) D h tell (l.map entText)) := (by
           unfold LogS.save
           rw [if_neg hc1, if_neg hne, hbg, ← htell, if_pos hE, if_pos hm])
         rw [e]
         first | rw [show there (layD (next W.segs) D h tell (l.map entText)) W.segs (layS (next W.segs) D h tell (l.map entText)) = layS (next W.segs) D h tell (l.map entText) from if_pos hk] | rw [show there (layD (next W.segs) D h tell (l.map entText)) W.segs (layS (next W.segs) D h tell (l.map entText)) = W.segs from if_neg hk]
         refine rt ?_
         exact ⟨_, ⟨_, _, rfl, rfl⟩, _, by repeat constructor⟩)
      | skip
    all_goals
      have hE : layE (next W.segs) D h tell (l.map entText) = 0 := by assumption
      have e : W.save D h l = (0, puts ({ W with hard := h, segs := layS (next W.segs) D h tell (l.map entText) } : LogS) l, layD (next W.segs) D h tell (l.map entText)) := by
        unfold LogS.save
        rw [if_neg hc1, if_neg hne, hbg, ← htell, if_neg (by rw [hE]; decide)]
      rw [e]
      refine lp (α := Nat × Int × Value × LogS) (fun y => [(0, .pointer (some ⟨w, 0, none⟩)), (110, lv), (111, .int .i64 l.length), (112, .int .i64 y.2.1)]) (fun y => [blk w (lcell d y.2.2.2.hard y.2.2.1 v3), sl 70 entE lv l, sl 70 entE y.2.2.1 y.2.2.2.ents, sl 94 segE v3 y.2.2.2.segs, blk d (dcell m (layD (next W.segs) D h tell (l.map entText))), mp fmap m (layD (next W.segs) D h tell (l.map entText)).files]) (fun y => y.2.1 = (y.1 : Int) ∧ y.1 ≤ l.length ∧ y.2.2.2 = puts ({ W with hard := h, segs := layS (next W.segs) D h tell (l.map entText) } : LogS) (l.take y.1) ∧ PutOk ({ W with hard := h, segs := layS (next W.segs) D h tell (l.map entText) } : LogS) y.2.2.2 y.1) (fun y => l.length - y.1) (0, 0, ev, ({ W with hard := h, segs := layS (next W.segs) D h tell (l.map entText) } : LogS)) ?_ ⟨rfl, Nat.zero_le _, rfl, ⟨hR, Nat.le_refl _, rfl, rfl⟩⟩
      clear again hgd hXg
      rintro ⟨j, n, ev1, V⟩ ⟨hn, hj, hV, hP⟩ again
      dsimp only at hn hj hV hP again ⊢
      subst hn
      have q1 := hP.rise
      have q2 : V.ents.length ≤ 1000000 := by
        have := hP.len
        have e1 : (({ W with hard := h, segs := layS (next W.segs) D h tell (l.map entText) } : LogS)).ents.length = W.ents.length := rfl
        omega
      have q3 : V.segs ≠ [] := ne_of_len hP.slen kS
      have q4 : V.segs.length ≤ 100000 := by rw [hP.slen]; exact kl
      have q5 : j < l.length → (l.getD j .none).In ∧ 0 < (l.getD j .none).index := fun hj => by
        rw [getD_of hj]; exact ⟨(hli _ (List.getElem_mem hj)).1, hpos _ (List.getElem_mem hj)⟩
      repeat' (first | (refine cl (put_tr w d V.hard ev1 v3 V.ents V.segs (l.getD j .none) (q5 (by omega)).1 (q5 (by omega)).2 q1 q3 q4 q2) ?_; rintro r Γ' ⟨ev2, rfl⟩; refine n3 ?_) | refine mv ?_ | refine asn ?_ | refine jn ?_ | refine nl ?_ | refine ld rfl ?_ | refine nc ?_ | refine f0 ?_ | refine xt2 ?_ | refine sq ?_ | refine rg ?_ | refine lnb ?_ | refine lls rfl ?_ | refine ad ?_ | refine sb ?_ | refine lss ?_ | refine eql ?_ | refine neq ?_ | refine gtr ?_ | refine geq ?_ | refine leq ?_ | refine nt ?_ | refine pen ?_ | refine pnn ?_ | refine p1 ?_ | refine p0 ?_ | refine sk2 ?_ | refine kp ?_ | refine ct ?_ | refine cf ?_ | (refine cd (fun hc => ?_) (fun hc => ?_) <;> try (exfalso; omega)) | (refine cn (fun hc => ?_) (fun hc => ?_) <;> try (exfalso; omega)) | refine bl ?_ | refine ib ?_ | refine xt ?_ | refine bx (fun b_ => ?_) | refine al (fun b_ => ?_) | refine sr rfl ?_ | refine la rfl ?_ | refine ixa rfl rfl ?_ | refine fe ?_ | refine lde rfl ?_ | refine lae rfl ?_ | refine fa ?_ | refine bld ?_ | refine mf2 ?_ | refine seq ?_ | refine sne ?_ | refine cc ?_ | refine ixb ?_ | refine slb ?_ | refine slbl ?_ | refine slbh ?_ | refine cv ?_ | refine mx ?_ | refine mn ?_ | refine ml ?_ | refine af_ ?_ | (refine gd (fun hc => ?_) (fun hc => ?_) <;> try (exfalso; omega)) | (refine gn (fun hc => ?_) (fun hc => ?_) <;> try (exfalso; omega)) | refine aw ?_ | refine pes ?_ | refine pns ?_ | refine sw ?_ | refine ng ?_ | refine aeq ?_ | refine ane ?_ | refine sli rfl ?_ | refine slil rfl ?_ | refine slih rfl ?_ | refine cb (fun hc => ?_) (fun hc => ?_) | refine gs (fun hc => ?_) (fun hc => ?_) | refine J_draw (id := 11) [(0, true, []), (1, true, []), (2, true, []), (3, true, []), (4, true, []), (5, true, []), (6, true, []), (7, true, []), (8, true, []), (9, true, []), (10, true, [])] (by kernel_rfl) ?_ | refine J_draw2 (id := 16) [(0, true, []), (1, true, []), (3, true, []), (4, true, []), (5, true, []), (6, true, []), (2, false, [0, 3, 4, 5, 6]), (7, false, [0, 1]), (8, false, [0]), (9, true, []), (10, true, []), (11, false, [])] [(0, true, []), (1, true, []), (3, true, []), (4, true, []), (5, true, []), (6, true, []), (7, false, [0, 1]), (2, false, [0, 3, 4, 5, 6]), (8, false, [0]), (9, true, []), (10, true, []), (11, false, [])] (by kernel_rfl) ?_ ?_ | refine J_draw (id := 17) [(0, true, []), (1, true, []), (2, true, []), (3, true, []), (4, true, []), (5, true, []), (6, true, []), (7, true, []), (8, true, []), (9, false, []), (10, true, [])] (by kernel_rfl) ?_ | refine JS_cons rfl rfl (RO_move rfl) ?_ | refine JS_cons rfl rfl (RO_nilCheck rfl) ?_ | refine JS_cons rfl rfl (RO_fieldAddr0 rfl) ?_ | refine JS_cons rfl rfl (RO_load rfl (by rfl)) ?_ | refine JS_off rfl ?_ | refine JS_cons rfl rfl (RO_extract rfl rfl) ?_ | refine JS_cons rfl rfl (RO_not rfl) ?_ | refine JS_cons rfl rfl (RO_fieldAddr rfl) ?_ | refine JS_cons rfl rfl (RO_lnb rfl) ?_ | refine JS_cons rfl rfl (RO_lls rfl) ?_ | refine JS_cons rfl rfl (RO_add_in rfl rfl (by omega)) ?_ | refine JS_cons rfl rfl (RO_sub_in rfl rfl (by omega)) ?_ | refine JS_cons rfl rfl (RO_ixa rfl rfl (by omega)) ?_ | refine JS_cons rfl rfl (RO_fe rfl) ?_ | refine JS_cons rfl rfl (RO_lde rfl (by omega) rfl) ?_ | refine JS_cons rfl rfl (RO_slih rfl rfl (by omega)) ?_ | refine JS_cons rfl rfl (RO_slil rfl rfl (by omega)) ?_ | refine JS_offu rfl ?_ | refine JS_cons rfl rfl (RO_cc rfl rfl (by omega)) ?_ | refine JS_cons rfl rfl (RO_bld rfl (by (repeat (first | exact FillS.nil | (apply FillS.cons; rfl; rfl; constructor; rfl; (focus repeat constructor)))))) ?_ | refine JS_cons rfl rfl (RO_lae rfl (by omega) (by repeat constructor)) ?_ | refine JS_cons rfl rfl (RO_loadAgg rfl (by repeat constructor)) ?_)
      all_goals first
        | (have hj' : j < l.length := (by omega)
           exact ag (again (j + 1, (j : Int) + 1, ev2, V.put (l.getD j .none)) ⟨(by dsimp only; omega), hj', (by dsimp only; rw [hV, puts_take hj']), hP.put (q5 hj').1 (q5 hj').2⟩ (by dsimp only; omega)))
        | (have hjl : j = l.length := (by omega)
           rw [hjl, List.take_length] at hV
           subst hV
           refine rt ?_
           exact ⟨_, ⟨_, _, rfl, rfl⟩, _, by repeat constructor⟩)
theorem save_tr (w d m : Nat) (lv : Value) (W : LogS) (ev sv : Value) (D : DiskS) (hD : D.Ok) (h : Hrd) (hh : h.In) (l : List Ent) (hl : l.length ≤ 100) (hli : ∀ e ∈ l, e.In ∧ e.data.length ≤ 60000)
    (hS : W.segs ≠ []) (hSl : W.segs.length ≤ 1000) (hn0 : 0 ≤ (lastS W.segs).number) (hn1 : (lastS W.segs).number < 99) (hz0 : 0 ≤ (lastS W.segs).size) (hz1 : (lastS W.segs).size ≤ 100000000) (hR : Rise W.ents) (hLl : W.ents.length ≤ 100000) :
    Tr Tryz.prog 31 [.pointer (some ⟨w, 0, none⟩), hrdV h, lv] [sl 70 entE lv l, blk w (lcell d W.hard ev sv), sl 70 entE ev W.ents, sl 94 segE sv W.segs, blk d (dcell m D), mp fmap m D.files]
      fun v Γ => ∃ ev' sv', v = .int .i64 (W.save D h l).1 ∧ Γ = [blk w (lcell d (W.save D h l).2.1.hard ev' sv'), sl 70 entE ev' (W.save D h l).2.1.ents, sl 94 segE sv' (W.save D h l).2.1.segs, blk d (dcell m (W.save D h l).2.2), mp fmap m (W.save D h l).2.2.files] := by
  by_cases hb : h.term < 0 ∨ h.vote < 0 ∨ (l.any fun e => !e.right) = true
  · have e : W.save D h l = (1, W, D) := by unfold LogS.save; rw [if_pos hb]
    rw [e]
    exact (save_arg w d m lv W ev sv D h l hl hb).post fun v Γ ⟨h1, h2⟩ B F w hS => ⟨Γ, ⟨ev, sv, h1, h2⟩, hS⟩
  · have h0 : 0 ≤ h.term := by omega
    have h1 : 0 ≤ h.vote := by omega
    have hany : (l.any fun e => !e.right) = false := by
      cases hx : (l.any fun e => !e.right)
      · rfl
      · exact absurd (.inr (.inr hx)) hb
    by_cases hm : more W.segs
    · exact save_more w d m lv W ev sv D hD h hh l hl hli h0 h1 hany hS hSl hn0 hn1 hz0 hz1 hR hLl hm
    · exact save_same w d m lv W ev sv D hD h hh l hl hli h0 h1 hany hS hSl hn0 hn1 hz0 hz1 hR hLl hm
end Go.Proofs.YtaeefjcbmkiiaaaGreatDoor
