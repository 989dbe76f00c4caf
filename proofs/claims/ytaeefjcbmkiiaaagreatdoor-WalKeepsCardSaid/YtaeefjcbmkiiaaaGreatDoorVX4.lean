/- The log: records laid down. -/
import Derived.Test.YtaeefjcbmkiiaaaGreatDoorVX3
set_option linter.unusedVariables false
set_option linter.unusedSimpArgs false
namespace Go.Proofs.YtaeefjcbmkiiaaaGreatDoor
open Go Sl
attribute [local irreducible] J JR JS RO CR Arr Sat Tr sat blk
set_option linter.unusedVariables false
set_option maxHeartbeats 400000
set_option maxRecDepth 4000
theorem Frame1_tr (s : List UInt8) (hs : s.length ≤ 65536) : Tr Tryz.prog 85 [vs s] [] fun r Γ => r = .tuple #[vs (frame s), .int .i64 0] ∧ Γ = [] :=
  (Frame_tr s (by omega)).post fun r Γ ⟨h1, h2⟩ B F w hS => ⟨Γ, ⟨by rw [h1, if_pos hs], h2⟩, hS⟩
theorem lastS_setLast {S : List Seg} (h : S ≠ []) (q : Seg) : lastS (setLast S q) = q := by
  obtain ⟨A, r, rfl⟩ := ne_end h
  rw [setLast_end, lastS_end]
theorem setLast_length (S : List Seg) (q : Seg) : (setLast S q).length = S.length := by simp [setLast]
theorem frames_take {ps : List (List UInt8)} {i : Nat} (h : i < ps.length) : frames (ps.take (i + 1)) = frames (ps.take i) ++ frame (ps.getD i []) := by
  rw [List.take_succ_eq_append_getElem h, frames, List.flatMap_append, List.getD_eq_getElem?_getD, List.getElem?_eq_getElem h]
  simp [frames]
theorem frames_len {ps : List (List UInt8)} (h : ∀ p ∈ ps, p.length ≤ 65536) : (frames ps).length ≤ 65544 * ps.length := by
  induction ps with
  | nil => simp [frames]
  | cons p ps ih =>
    have := h p (List.mem_cons_self ..)
    have := ih fun q hq => h q (List.mem_cons_of_mem _ hq)
    simp only [frames, List.flatMap_cons, List.length_append, frame_length, List.length_cons] at this ⊢
    omega
theorem hardText_len {h : Hrd} (hh : h.In) : 1 ≤ (hardText h).length ∧ (hardText h).length ≤ 30 := by
  have h1 := encInt_length (n := 1) (by decide) (by decide)
  have h2 := encInt_length hh.t.1 hh.t.2
  have h3 := encInt_length hh.v.1 hh.v.2
  simp only [hardText, encInts, List.flatMap_cons, List.flatMap_nil, List.length_append, List.append_nil]
  omega
theorem lay1_tr (w d m : Nat) (h0 : Hrd) (ev sv pv : Value) (S : List Seg) (D : DiskS) (hD : D.Ok) (h : Hrd) (hh : h.In) (tell : Bool) (ps : List (List UInt8)) (hps : ∀ p ∈ ps, p.length ≤ 65536) (hpl : ps.length ≤ 100) (hS : S ≠ []) (hSl : S.length ≤ 100000) (hn0 : 0 ≤ (lastS S).number) (hn1 : (lastS S).number < 100) (hz0 : 0 ≤ (lastS S).size) (hz1 : (lastS S).size ≤ 100000000) (hcond : tell = true ∨ (lastS S).size = 0) :
    Tr Tryz.prog 50 [.pointer (some ⟨w, 0, none⟩), hrdV h, .bool tell, pv] [blk w (lcell d h0 ev sv), sl 94 segE sv S, blk d (dcell m D), mp fmap m D.files, sl 9 strE pv ps]
      fun v Γ => v = .int .i64 (layE S D h tell ps) ∧ Γ = [blk w (lcell d h0 ev sv), sl 94 segE sv (layS S D h tell ps), blk d (dcell m (layD S D h tell ps)), mp fmap m (layD S D h tell ps).files] := by
  have hS0 : 0 < S.length := List.length_pos_iff.2 hS
  have hHT := hardText_len hh
  have hS1 : (((S.length : Nat) : Int) - 1).toNat < S.length := by omega
  obtain ⟨qv0, hqv0⟩ : ∃ v : Value, v = pv := ⟨_, rfl⟩
  refine Tr_of_J Tryz.func50 follows rfl Tryz.ntmps50 (by simp) fun B F => ?_
  repeat' (first | (refine cl (hardText_tr h hh) ?_; rintro r Γ' ⟨rfl, rfl⟩; refine n0 ?_) | refine bsl (e := strE) (X := [hardText h]) (fun v2 => ?_) (.cona rfl rfl .nil) | refine apo rfl rfl (fun v3 => ?_) (by simp; omega) (by simp; omega) | refine mv ?_ | refine asn ?_ | refine jn ?_ | refine nl ?_ | refine ld rfl ?_ | refine nc ?_ | refine f0 ?_ | refine xt2 ?_ | refine sq ?_ | refine rg ?_ | refine lnb ?_ | refine lls rfl ?_ | refine ad ?_ | refine sb ?_ | refine lss ?_ | refine eql ?_ | refine neq ?_ | refine p1 ?_ | refine p0 ?_ | refine sk2 ?_ | refine kp ?_ | refine ct ?_ | refine cf ?_ | (refine cd (fun hc => ?_) (fun hc => ?_) <;> try (exfalso; omega)) | (refine cn (fun hc => ?_) (fun hc => ?_) <;> try (exfalso; omega)) | refine bl ?_ | refine ib ?_ | refine xt ?_ | refine bx (fun b_ => ?_) | refine al (fun b_ => ?_) | refine sr rfl ?_ | refine la rfl ?_ | refine ixa rfl rfl ?_ | refine fe ?_ | refine lde rfl ?_ | refine lae rfl ?_ | refine fa ?_ | refine sne ?_ | refine cc ?_ | refine af_ ?_ | (refine gd (fun hc => ?_) (fun hc => ?_) <;> try (exfalso; omega)) | (refine gn (fun hc => ?_) (fun hc => ?_) <;> try (exfalso; omega)) | refine aw ?_ | refine sw ?_ | refine ane ?_ | refine cb (fun hc => ?_) (fun hc => ?_) | refine gs (fun hc => ?_) (fun hc => ?_) | refine J_draw (id := 1) [(0, true, []), (1, true, []), (2, true, []), (3, true, []), (4, true, []), (5, true, []), (6, true, []), (7, true, []), (8, true, []), (9, true, []), (10, true, []), (11, true, [])] (by kernel_rfl) ?_ | refine J_draw (id := 13) [(0, true, []), (1, true, []), (2, true, []), (3, true, []), (4, true, []), (5, true, []), (6, true, []), (7, false, [0, 1, 2, 3]), (8, false, [0, 1, 2, 3]), (9, false, []), (10, true, [])] (by kernel_rfl) ?_ | refine J_draw (id := 16) [(0, true, []), (1, true, []), (2, true, []), (3, true, []), (4, false, [0, 1, 2, 3]), (5, true, []), (6, true, []), (7, true, []), (8, false, [])] (by kernel_rfl) ?_ | refine J_draw (id := 17) [(0, true, []), (1, true, []), (2, true, []), (3, true, []), (4, true, []), (5, true, []), (6, true, []), (7, false, [0, 1, 2, 3]), (8, false, []), (9, true, [])] (by kernel_rfl) ?_ | refine JS_cons rfl rfl (RO_move rfl) ?_ | refine JS_cons rfl rfl (RO_nilCheck rfl) ?_ | refine JS_cons rfl rfl (RO_fieldAddr0 rfl) ?_ | refine JS_cons rfl rfl (RO_load rfl (by rfl)) ?_ | refine JS_off rfl ?_ | refine JS_cons rfl rfl (RO_extract rfl rfl) ?_ | refine JS_cons rfl rfl (RO_fieldAddr rfl) ?_ | refine JS_cons rfl rfl (RO_lnb rfl) ?_ | refine JS_cons rfl rfl (RO_lls rfl) ?_ | refine JS_cons rfl rfl (RO_add_in rfl rfl (by omega)) ?_ | refine JS_cons rfl rfl (RO_sub_in rfl rfl (by omega)) ?_ | refine JS_cons rfl rfl (RO_ixa rfl rfl (by omega)) ?_ | refine JS_cons rfl rfl (RO_fe rfl) ?_ | refine JS_cons rfl rfl (RO_lde rfl (by omega) rfl) ?_ | refine JS_offu rfl ?_ | refine JS_cons rfl rfl (RO_cc rfl rfl (by omega)) ?_ | refine JS_cons rfl rfl (RO_lae rfl (by omega) (by repeat constructor)) ?_ | refine JS_cons rfl rfl (RO_loadAgg rfl (by repeat constructor)) ?_ | fail)
  all_goals first | (exfalso; rcases hcond with hx | hx; (· simp_all; done); (· exact absurd hx (by assumption))) | skip
  all_goals
    rename_i b_
    have hQ : told S h tell ps = [hardText h] ++ ps := if_pos hcond
    generalize hqv : v3 = qv
    clear hqv
    generalize [hardText h] ++ ps = Q at hQ ⊢
    have hQl : Q.length ≤ 101 := by (have : Q.length ≤ ps.length + 1 := by rw [← hQ]; unfold told; split <;> simp); omega
    have hQp : ∀ p ∈ Q, p.length ≤ 65536 := by
      rw [← hQ]; unfold told
      by_cases hx : tell = true ∨ (lastS S).size = 0
      · rw [if_pos hx]
        intro p hp
        rcases List.mem_cons.1 hp with rfl | hp
        · omega
        · exact hps p hp
      · rw [if_neg hx]; exact hps
    have hFl := frames_len hQp
    have hFt : ∀ i, (frames (Q.take i)).length ≤ 65544 * 101 := fun i => by
      have := @frames_len (Q.take i) fun p hp => hQp p (List.mem_of_mem_take hp)
      rw [List.length_take] at this; omega
    have hT : layT S h tell ps = frames Q := by unfold layT; rw [hQ]
    refine J_sat (Γ' := sl 5 byteE (.slice none 0 0) [] :: _) ?_ fun w hS => sl_nil hS
    refine lp (α := Nat × Int × Value × Value × List UInt8) (fun y => [(0, .pointer (some ⟨w, 0, none⟩)), (9, .pointer (some ⟨vb sv, el (vo sv) (((S.length : Nat) : Int) - 1).toNat segE.sz 0, none⟩)), (10, .pointer (some ⟨b_, 0, none⟩)), (40, qv), (41, .int .i64 Q.length), (42, .int .i64 y.2.1)]) (fun y => [sl 9 strE qv Q, blk b_ (bcell 143 y.2.2.1 y.2.2.2.1), sl 5 byteE y.2.2.2.1 y.2.2.2.2, blk w (lcell d h0 ev sv), sl 94 segE sv S, blk d (dcell m D), mp fmap m D.files]) (fun y => y.2.1 = (y.1 : Int) ∧ y.1 ≤ Q.length ∧ BP b_ y.2.2.1 ∧ y.2.2.2.2 = frames (Q.take y.1)) (fun y => Q.length - y.1) (0, 0, .pointer none, .slice none 0 0, []) ?_ ⟨rfl, Nat.zero_le _, .inl rfl, rfl⟩
    rintro ⟨i, n, p1, v1, T⟩ ⟨hn, hi, hp1, hW⟩ again
    dsimp only at hn hi hp1 hW again ⊢
    subst hn
    have hTl : T.length ≤ 65544 * 101 := by rw [hW]; exact hFt i
    have hgd : i < Q.length → (Q.getD i []).length ≤ 65536 := fun h => by
      rw [List.getD_eq_getElem?_getD, List.getElem?_eq_getElem h]; exact hQp _ (List.getElem_mem h)
    refine J_fact (p := ∃ q cap, v1 = .slice q T.length cap) (fun w hS => ?_) fun ⟨q, cap, hv1⟩ => ?_
    · rcases sl_cases (hS.perm (List.perm_middle (l₁ := [_, _]))) with ⟨h1, h2⟩ | ⟨g, cap, h1, _⟩
      · exact ⟨none, 0, by rw [h1, h2]; rfl⟩
      · exact ⟨_, cap, h1⟩
    subst hv1
    repeat' (first | (refine cl (Frame1_tr (Q.getD i []) (hgd (by omega))) ?_; rintro r Γ' ⟨rfl, rfl⟩; refine n0 ?_) | (refine cl (wstr_tr 143 b_ p1 (.slice q T.length cap) hp1 T (frame (Q.getD i [])) (by rw [frame_length]; have := hgd (by omega); omega)) ?_; rintro r Γ' ⟨v2, rfl⟩; refine n2 ?_) | (refine cl (segName_tr (lastS S) hn0 hn1) ?_; rintro r Γ' ⟨rfl, rfl⟩; refine n0 ?_) | refine mv ?_ | refine asn ?_ | refine jn ?_ | refine nl ?_ | refine ld rfl ?_ | refine nc ?_ | refine f0 ?_ | refine xt2 ?_ | refine sq ?_ | refine rg ?_ | refine lnb ?_ | refine lls rfl ?_ | refine ad ?_ | refine sb ?_ | refine lss ?_ | refine eql ?_ | refine neq ?_ | refine p1 ?_ | refine p0 ?_ | refine sk2 ?_ | refine kp ?_ | refine ct ?_ | refine cf ?_ | (refine cd (fun hc => ?_) (fun hc => ?_) <;> try (exfalso; omega)) | (refine cn (fun hc => ?_) (fun hc => ?_) <;> try (exfalso; omega)) | refine bl ?_ | refine ib ?_ | refine xt ?_ | refine bx (fun b_ => ?_) | refine al (fun b_ => ?_) | refine sr rfl ?_ | refine la rfl ?_ | refine ixa rfl rfl ?_ | refine fe ?_ | refine lde rfl ?_ | refine lae rfl ?_ | refine fa ?_ | refine sne ?_ | refine cc ?_ | refine af_ ?_ | (refine gd (fun hc => ?_) (fun hc => ?_) <;> try (exfalso; omega)) | (refine gn (fun hc => ?_) (fun hc => ?_) <;> try (exfalso; omega)) | refine aw ?_ | refine sw ?_ | refine ane ?_ | refine cb (fun hc => ?_) (fun hc => ?_) | refine gs (fun hc => ?_) (fun hc => ?_) | refine J_draw (id := 1) [(0, true, []), (1, true, []), (2, true, []), (3, true, []), (4, true, []), (5, true, []), (6, true, []), (7, true, []), (8, true, []), (9, true, []), (10, true, []), (11, true, [])] (by kernel_rfl) ?_ | refine J_draw (id := 13) [(0, true, []), (1, true, []), (2, true, []), (3, true, []), (4, true, []), (5, true, []), (6, true, []), (7, false, [0, 1, 2, 3]), (8, false, [0, 1, 2, 3]), (9, false, []), (10, true, [])] (by kernel_rfl) ?_ | refine J_draw (id := 16) [(0, true, []), (1, true, []), (2, true, []), (3, true, []), (4, false, [0, 1, 2, 3]), (5, true, []), (6, true, []), (7, true, []), (8, false, [])] (by kernel_rfl) ?_ | refine J_draw (id := 17) [(0, true, []), (1, true, []), (2, true, []), (3, true, []), (4, true, []), (5, true, []), (6, true, []), (7, false, [0, 1, 2, 3]), (8, false, []), (9, true, [])] (by kernel_rfl) ?_ | refine JS_cons rfl rfl (RO_move rfl) ?_ | refine JS_cons rfl rfl (RO_nilCheck rfl) ?_ | refine JS_cons rfl rfl (RO_fieldAddr0 rfl) ?_ | refine JS_cons rfl rfl (RO_load rfl (by rfl)) ?_ | refine JS_off rfl ?_ | refine JS_cons rfl rfl (RO_extract rfl rfl) ?_ | refine JS_cons rfl rfl (RO_fieldAddr rfl) ?_ | refine JS_cons rfl rfl (RO_lnb rfl) ?_ | refine JS_cons rfl rfl (RO_lls rfl) ?_ | refine JS_cons rfl rfl (RO_add_in rfl rfl (by omega)) ?_ | refine JS_cons rfl rfl (RO_sub_in rfl rfl (by omega)) ?_ | refine JS_cons rfl rfl (RO_ixa rfl rfl (by omega)) ?_ | refine JS_cons rfl rfl (RO_fe rfl) ?_ | refine JS_cons rfl rfl (RO_lde rfl (by omega) rfl) ?_ | refine JS_offu rfl ?_ | refine JS_cons rfl rfl (RO_cc rfl rfl (by omega)) ?_ | refine JS_cons rfl rfl (RO_lae rfl (by omega) (by repeat constructor)) ?_ | refine JS_cons rfl rfl (RO_loadAgg rfl (by repeat constructor)) ?_ | fail)
    · have hi' : i < Q.length := by omega
      exact ag (again (i + 1, (i : Int) + 1, .pointer (some ⟨b_, 0, none⟩), v2, T ++ frame (Q.getD i [])) ⟨by dsimp only; omega, hi', .inr rfl, by dsimp only; rw [hW, frames_take hi']⟩ (by dsimp only; omega))
    · have hil : i = Q.length := by omega
      rw [hil, List.take_length, ← hT] at hW
      subst hW
      have hTl' : (layT S h tell ps).length ≤ 65544 * 101 := hTl
      have hne : layT S h tell ps ≠ [] := by
        rw [hT]; intro he
        have := @frames_pos Q (by rw [← hQ]; unfold told; rw [if_pos hcond]; simp)
        rw [he] at this; exact absurd this (by simp)
      have hz0' : 0 ≤ (S.getD (((S.length : Nat) : Int) - 1).toNat segE.dflt).size := hz0
      have hz1' : (S.getD (((S.length : Nat) : Int) - 1).toNat segE.dflt).size ≤ 100000000 := hz1
      have hnl : (segFile (lastS S)).length ≤ 100000 := Nat.le_trans (segName_le (by omega)) (by decide)
      repeat' (first | (refine cl (str_tr 143 b_ p1 (.slice q (layT S h tell ps).length cap) (layT S h tell ps) hne) ?_; rintro r Γ' ⟨rfl, rfl⟩; refine n1 ?_) | (refine cl (append_tr d m D hD (segFile (lastS S)) (layT S h tell ps) hnl (by omega)) ?_; rintro r Γ' ⟨rfl, rfl⟩; refine n2 ?_) | (refine cl (len_tr 143 b_ p1 q (layT S h tell ps).length cap) ?_; rintro r Γ' ⟨rfl, rfl⟩; refine n1 ?_) | refine mv ?_ | refine asn ?_ | refine jn ?_ | refine nl ?_ | refine ld rfl ?_ | refine nc ?_ | refine f0 ?_ | refine xt2 ?_ | refine sq ?_ | refine rg ?_ | refine lnb ?_ | refine lls rfl ?_ | refine ad ?_ | refine sb ?_ | refine lss ?_ | refine eql ?_ | refine neq ?_ | refine p1 ?_ | refine p0 ?_ | refine sk2 ?_ | refine kp ?_ | refine ct ?_ | refine cf ?_ | (refine cd (fun hc => ?_) (fun hc => ?_) <;> try (exfalso; omega)) | (refine cn (fun hc => ?_) (fun hc => ?_) <;> try (exfalso; omega)) | refine bl ?_ | refine ib ?_ | refine xt ?_ | refine bx (fun b_ => ?_) | refine al (fun b_ => ?_) | refine sr rfl ?_ | refine la rfl ?_ | refine ixa rfl rfl ?_ | refine fe ?_ | refine lde rfl ?_ | refine lae rfl ?_ | refine fa ?_ | refine sne ?_ | refine cc ?_ | refine af_ ?_ | (refine gd (fun hc => ?_) (fun hc => ?_) <;> try (exfalso; omega)) | (refine gn (fun hc => ?_) (fun hc => ?_) <;> try (exfalso; omega)) | refine aw ?_ | refine sw ?_ | refine ane ?_ | refine cb (fun hc => ?_) (fun hc => ?_) | refine gs (fun hc => ?_) (fun hc => ?_) | refine J_draw (id := 1) [(0, true, []), (1, true, []), (2, true, []), (3, true, []), (4, true, []), (5, true, []), (6, true, []), (7, true, []), (8, true, []), (9, true, []), (10, true, []), (11, true, [])] (by kernel_rfl) ?_ | refine J_draw (id := 13) [(0, true, []), (1, true, []), (2, true, []), (3, true, []), (4, true, []), (5, true, []), (6, true, []), (7, false, [0, 1, 2, 3]), (8, false, [0, 1, 2, 3]), (9, false, []), (10, true, [])] (by kernel_rfl) ?_ | refine J_draw (id := 16) [(0, true, []), (1, true, []), (2, true, []), (3, true, []), (4, false, [0, 1, 2, 3]), (5, true, []), (6, true, []), (7, true, []), (8, false, [])] (by kernel_rfl) ?_ | refine J_draw (id := 17) [(0, true, []), (1, true, []), (2, true, []), (3, true, []), (4, true, []), (5, true, []), (6, true, []), (7, false, [0, 1, 2, 3]), (8, false, []), (9, true, [])] (by kernel_rfl) ?_ | refine JS_cons rfl rfl (RO_move rfl) ?_ | refine JS_cons rfl rfl (RO_nilCheck rfl) ?_ | refine JS_cons rfl rfl (RO_fieldAddr0 rfl) ?_ | refine JS_cons rfl rfl (RO_load rfl (by rfl)) ?_ | refine JS_off rfl ?_ | refine JS_cons rfl rfl (RO_extract rfl rfl) ?_ | refine JS_cons rfl rfl (RO_fieldAddr rfl) ?_ | refine JS_cons rfl rfl (RO_lnb rfl) ?_ | refine JS_cons rfl rfl (RO_lls rfl) ?_ | refine JS_cons rfl rfl (RO_add_in rfl rfl (by omega)) ?_ | refine JS_cons rfl rfl (RO_sub_in rfl rfl (by omega)) ?_ | refine JS_cons rfl rfl (RO_ixa rfl rfl (by omega)) ?_ | refine JS_cons rfl rfl (RO_fe rfl) ?_ | refine JS_cons rfl rfl (RO_lde rfl (by omega) rfl) ?_ | refine JS_offu rfl ?_ | refine JS_cons rfl rfl (RO_cc rfl rfl (by omega)) ?_ | refine JS_cons rfl rfl (RO_lae rfl (by omega) (by repeat constructor)) ?_ | refine JS_cons rfl rfl (RO_loadAgg rfl (by repeat constructor)) ?_ | fail)
      · have hc1 : (layA S D h tell ps).1 ≠ 0 := by assumption
        have e1 : layE S D h tell ps = (layA S D h tell ps).1 := if_pos hc1
        have e2 : layS S D h tell ps = S := if_pos hc1
        have e3 : layD S D h tell ps = (layA S D h tell ps).2 := if_pos hc1
        rw [e1, e2, e3]
        refine rt ?_
        exact ⟨_, ⟨rfl, rfl⟩, _, by repeat constructor⟩
      · have hc1 : ¬ (layA S D h tell ps).1 ≠ 0 := by
          have : (layA S D h tell ps).1 = 0 := by assumption
          simp [this]
        have e1 : layE S D h tell ps = ((layA S D h tell ps).2.sync (segFile (lastS S))).1 := if_neg hc1
        have e2 : layS S D h tell ps = grown S h tell ps := if_neg hc1
        have e3 : layD S D h tell ps = ((layA S D h tell ps).2.sync (segFile (lastS S))).2 := if_neg hc1
        have hg : (grown S h tell ps).getD (((S.length : Nat) : Int) - 1).toNat .none = { lastS S with size := (lastS S).size + (layT S h tell ps).length } := by
          have := lastS_setLast hS { lastS S with size := (lastS S).size + (layT S h tell ps).length }
          unfold lastS at this
          rw [setLast_length] at this
          exact this
        have hgn0 : 0 ≤ ((grown S h tell ps).getD (((S.length : Nat) : Int) - 1).toNat .none).number := by rw [hg]; exact hn0
        have hgn1 : ((grown S h tell ps).getD (((S.length : Nat) : Int) - 1).toNat .none).number < 100 := by rw [hg]; exact hn1
        have hgf : segName ((grown S h tell ps).getD (((S.length : Nat) : Int) - 1).toNat .none).number.toNat = segFile (lastS S) := by rw [hg]; rfl
        repeat' (first | refine sre rfl ?_ | refine lae rfl ?_ (by rw [List.length_set]; omega) | (refine cl (segName_tr ((grown S h tell ps).getD (((S.length : Nat) : Int) - 1).toNat .none) hgn0 hgn1) ?_; rintro r Γ' ⟨rfl, rfl⟩; rw [hgf]; refine n0 ?_) | (refine cl (sync_tr d m (layA S D h tell ps).2 (hD.append _ _) (segFile (lastS S))) ?_; rintro r Γ' ⟨rfl, rfl⟩; refine n2 ?_) | refine mv ?_ | refine asn ?_ | refine jn ?_ | refine nl ?_ | refine ld rfl ?_ | refine nc ?_ | refine f0 ?_ | refine xt2 ?_ | refine sq ?_ | refine rg ?_ | refine lnb ?_ | refine lls rfl ?_ | refine ad ?_ | refine sb ?_ | refine lss ?_ | refine eql ?_ | refine neq ?_ | refine p1 ?_ | refine p0 ?_ | refine sk2 ?_ | refine kp ?_ | refine ct ?_ | refine cf ?_ | (refine cd (fun hc => ?_) (fun hc => ?_) <;> try (exfalso; omega)) | (refine cn (fun hc => ?_) (fun hc => ?_) <;> try (exfalso; omega)) | refine bl ?_ | refine ib ?_ | refine xt ?_ | refine bx (fun b_ => ?_) | refine al (fun b_ => ?_) | refine sr rfl ?_ | refine la rfl ?_ | refine ixa rfl rfl ?_ | refine fe ?_ | refine lde rfl ?_ | refine lae rfl ?_ | refine fa ?_ | refine sne ?_ | refine cc ?_ | refine af_ ?_ | (refine gd (fun hc => ?_) (fun hc => ?_) <;> try (exfalso; omega)) | (refine gn (fun hc => ?_) (fun hc => ?_) <;> try (exfalso; omega)) | refine aw ?_ | refine sw ?_ | refine ane ?_ | refine cb (fun hc => ?_) (fun hc => ?_) | refine gs (fun hc => ?_) (fun hc => ?_) | refine J_draw (id := 1) [(0, true, []), (1, true, []), (2, true, []), (3, true, []), (4, true, []), (5, true, []), (6, true, []), (7, true, []), (8, true, []), (9, true, []), (10, true, []), (11, true, [])] (by kernel_rfl) ?_ | refine J_draw (id := 13) [(0, true, []), (1, true, []), (2, true, []), (3, true, []), (4, true, []), (5, true, []), (6, true, []), (7, false, [0, 1, 2, 3]), (8, false, [0, 1, 2, 3]), (9, false, []), (10, true, [])] (by kernel_rfl) ?_ | refine J_draw (id := 16) [(0, true, []), (1, true, []), (2, true, []), (3, true, []), (4, false, [0, 1, 2, 3]), (5, true, []), (6, true, []), (7, true, []), (8, false, [])] (by kernel_rfl) ?_ | refine J_draw (id := 17) [(0, true, []), (1, true, []), (2, true, []), (3, true, []), (4, true, []), (5, true, []), (6, true, []), (7, false, [0, 1, 2, 3]), (8, false, []), (9, true, [])] (by kernel_rfl) ?_ | refine JS_cons rfl rfl (RO_move rfl) ?_ | refine JS_cons rfl rfl (RO_nilCheck rfl) ?_ | refine JS_cons rfl rfl (RO_fieldAddr0 rfl) ?_ | refine JS_cons rfl rfl (RO_load rfl (by rfl)) ?_ | refine JS_off rfl ?_ | refine JS_cons rfl rfl (RO_extract rfl rfl) ?_ | refine JS_cons rfl rfl (RO_fieldAddr rfl) ?_ | refine JS_cons rfl rfl (RO_lnb rfl) ?_ | refine JS_cons rfl rfl (RO_lls rfl) ?_ | refine JS_cons rfl rfl (RO_add_in rfl rfl (by omega)) ?_ | refine JS_cons rfl rfl (RO_sub_in rfl rfl (by omega)) ?_ | refine JS_cons rfl rfl (RO_ixa rfl rfl (by omega)) ?_ | refine JS_cons rfl rfl (RO_fe rfl) ?_ | refine JS_cons rfl rfl (RO_lde rfl (by omega) rfl) ?_ | refine JS_offu rfl ?_ | refine JS_cons rfl rfl (RO_cc rfl rfl (by omega)) ?_ | refine JS_cons rfl rfl (RO_lae rfl (by omega) (by repeat constructor)) ?_ | refine JS_cons rfl rfl (RO_loadAgg rfl (by repeat constructor)) ?_ | fail)
        rw [e1, e2, e3]
        refine rt ?_
        exact ⟨_, ⟨rfl, rfl⟩, _, by repeat constructor⟩
theorem lay2_tr (w d m : Nat) (h0 : Hrd) (ev sv pv : Value) (S : List Seg) (D : DiskS) (hD : D.Ok) (h : Hrd) (hh : h.In) (tell : Bool) (Q : List (List UInt8)) (hps : ∀ p ∈ Q, p.length ≤ 65536) (hpl : Q.length ≤ 100) (hS : S ≠ []) (hSl : S.length ≤ 100000) (hn0 : 0 ≤ (lastS S).number) (hn1 : (lastS S).number < 100) (hz0 : 0 ≤ (lastS S).size) (hz1 : (lastS S).size ≤ 100000000) (hcond : ¬ (tell = true ∨ (lastS S).size = 0)) (hps0 : Q ≠ []) :
    Tr Tryz.prog 50 [.pointer (some ⟨w, 0, none⟩), hrdV h, .bool tell, pv] [blk w (lcell d h0 ev sv), sl 94 segE sv S, blk d (dcell m D), mp fmap m D.files, sl 9 strE pv Q]
      fun v Γ => v = .int .i64 (layE S D h tell Q) ∧ Γ = [blk w (lcell d h0 ev sv), sl 94 segE sv (layS S D h tell Q), blk d (dcell m (layD S D h tell Q)), mp fmap m (layD S D h tell Q).files] := by
  have hS0 : 0 < S.length := List.length_pos_iff.2 hS
  have hHT := hardText_len hh
  have hS1 : (((S.length : Nat) : Int) - 1).toNat < S.length := by omega
  obtain ⟨qv0, hqv0⟩ : ∃ v : Value, v = pv := ⟨_, rfl⟩
  refine Tr_of_J Tryz.func50 follows rfl Tryz.ntmps50 (by simp) fun B F => ?_
  repeat' (first | (refine cl (hardText_tr h hh) ?_; rintro r Γ' ⟨rfl, rfl⟩; refine n0 ?_) | refine bsl (e := strE) (X := [hardText h]) (fun v2 => ?_) (.cona rfl rfl .nil) | refine apo rfl rfl (fun v3 => ?_) (by simp; omega) (by simp; omega) | refine mv ?_ | refine asn ?_ | refine jn ?_ | refine nl ?_ | refine ld rfl ?_ | refine nc ?_ | refine f0 ?_ | refine xt2 ?_ | refine sq ?_ | refine rg ?_ | refine lnb ?_ | refine lls rfl ?_ | refine ad ?_ | refine sb ?_ | refine lss ?_ | refine eql ?_ | refine neq ?_ | refine p1 ?_ | refine p0 ?_ | refine sk2 ?_ | refine kp ?_ | refine ct ?_ | refine cf ?_ | (refine cd (fun hc => ?_) (fun hc => ?_) <;> try (exfalso; omega)) | (refine cn (fun hc => ?_) (fun hc => ?_) <;> try (exfalso; omega)) | refine bl ?_ | refine ib ?_ | refine xt ?_ | refine bx (fun b_ => ?_) | refine al (fun b_ => ?_) | refine sr rfl ?_ | refine la rfl ?_ | refine ixa rfl rfl ?_ | refine fe ?_ | refine lde rfl ?_ | refine lae rfl ?_ | refine fa ?_ | refine sne ?_ | refine cc ?_ | refine af_ ?_ | (refine gd (fun hc => ?_) (fun hc => ?_) <;> try (exfalso; omega)) | (refine gn (fun hc => ?_) (fun hc => ?_) <;> try (exfalso; omega)) | refine aw ?_ | refine sw ?_ | refine ane ?_ | refine cb (fun hc => ?_) (fun hc => ?_) | refine gs (fun hc => ?_) (fun hc => ?_) | refine J_draw (id := 1) [(0, true, []), (1, true, []), (2, true, []), (3, true, []), (4, true, []), (5, true, []), (6, true, []), (7, true, []), (8, true, []), (9, true, []), (10, true, []), (11, true, [])] (by kernel_rfl) ?_ | refine J_draw (id := 13) [(0, true, []), (1, true, []), (2, true, []), (3, true, []), (4, true, []), (5, true, []), (6, true, []), (7, false, [0, 1, 2, 3]), (8, false, [0, 1, 2, 3]), (9, false, []), (10, true, [])] (by kernel_rfl) ?_ | refine J_draw (id := 16) [(0, true, []), (1, true, []), (2, true, []), (3, true, []), (4, false, [0, 1, 2, 3]), (5, true, []), (6, true, []), (7, true, []), (8, false, [])] (by kernel_rfl) ?_ | refine J_draw (id := 17) [(0, true, []), (1, true, []), (2, true, []), (3, true, []), (4, true, []), (5, true, []), (6, true, []), (7, false, [0, 1, 2, 3]), (8, false, []), (9, true, [])] (by kernel_rfl) ?_ | refine JS_cons rfl rfl (RO_move rfl) ?_ | refine JS_cons rfl rfl (RO_nilCheck rfl) ?_ | refine JS_cons rfl rfl (RO_fieldAddr0 rfl) ?_ | refine JS_cons rfl rfl (RO_load rfl (by rfl)) ?_ | refine JS_off rfl ?_ | refine JS_cons rfl rfl (RO_extract rfl rfl) ?_ | refine JS_cons rfl rfl (RO_fieldAddr rfl) ?_ | refine JS_cons rfl rfl (RO_lnb rfl) ?_ | refine JS_cons rfl rfl (RO_lls rfl) ?_ | refine JS_cons rfl rfl (RO_add_in rfl rfl (by omega)) ?_ | refine JS_cons rfl rfl (RO_sub_in rfl rfl (by omega)) ?_ | refine JS_cons rfl rfl (RO_ixa rfl rfl (by omega)) ?_ | refine JS_cons rfl rfl (RO_fe rfl) ?_ | refine JS_cons rfl rfl (RO_lde rfl (by omega) rfl) ?_ | refine JS_offu rfl ?_ | refine JS_cons rfl rfl (RO_cc rfl rfl (by omega)) ?_ | refine JS_cons rfl rfl (RO_lae rfl (by omega) (by repeat constructor)) ?_ | refine JS_cons rfl rfl (RO_loadAgg rfl (by repeat constructor)) ?_ | fail)
  all_goals first | (exfalso; exact hcond (.inl (by assumption))) | (exfalso; exact hcond (.inr (by assumption))) | skip
  all_goals
    rename_i b_
    have hQ : told S h tell Q = Q := if_neg hcond
    have hQl : Q.length ≤ 101 := by (have : Q.length ≤ Q.length + 1 := by rw [← hQ]; unfold told; split <;> simp); omega
    have hQp : ∀ p ∈ Q, p.length ≤ 65536 := by
      rw [← hQ]; unfold told
      by_cases hx : tell = true ∨ (lastS S).size = 0
      · rw [if_pos hx]
        intro p hp
        rcases List.mem_cons.1 hp with rfl | hp
        · omega
        · exact hps p hp
      · rw [if_neg hx]; exact hps
    have hFl := frames_len hQp
    have hFt : ∀ i, (frames (Q.take i)).length ≤ 65544 * 101 := fun i => by
      have := @frames_len (Q.take i) fun p hp => hQp p (List.mem_of_mem_take hp)
      rw [List.length_take] at this; omega
    have hT : layT S h tell Q = frames Q := by unfold layT; rw [hQ]
    refine J_sat (Γ' := sl 5 byteE (.slice none 0 0) [] :: _) ?_ fun w hS => sl_nil hS
    refine lp (α := Nat × Int × Value × Value × List UInt8) (fun y => [(0, .pointer (some ⟨w, 0, none⟩)), (9, .pointer (some ⟨vb sv, el (vo sv) (((S.length : Nat) : Int) - 1).toNat segE.sz 0, none⟩)), (10, .pointer (some ⟨b_, 0, none⟩)), (40, pv), (41, .int .i64 Q.length), (42, .int .i64 y.2.1)]) (fun y => [sl 9 strE pv Q, blk b_ (bcell 143 y.2.2.1 y.2.2.2.1), sl 5 byteE y.2.2.2.1 y.2.2.2.2, blk w (lcell d h0 ev sv), sl 94 segE sv S, blk d (dcell m D), mp fmap m D.files]) (fun y => y.2.1 = (y.1 : Int) ∧ y.1 ≤ Q.length ∧ BP b_ y.2.2.1 ∧ y.2.2.2.2 = frames (Q.take y.1)) (fun y => Q.length - y.1) (0, 0, .pointer none, .slice none 0 0, []) ?_ ⟨rfl, Nat.zero_le _, .inl rfl, rfl⟩
    rintro ⟨i, n, p1, v1, T⟩ ⟨hn, hi, hp1, hW⟩ again
    dsimp only at hn hi hp1 hW again ⊢
    subst hn
    have hTl : T.length ≤ 65544 * 101 := by rw [hW]; exact hFt i
    have hgd : i < Q.length → (Q.getD i []).length ≤ 65536 := fun h => by
      rw [List.getD_eq_getElem?_getD, List.getElem?_eq_getElem h]; exact hQp _ (List.getElem_mem h)
    refine J_fact (p := ∃ q cap, v1 = .slice q T.length cap) (fun w hS => ?_) fun ⟨q, cap, hv1⟩ => ?_
    · rcases sl_cases (hS.perm (List.perm_middle (l₁ := [_, _]))) with ⟨h1, h2⟩ | ⟨g, cap, h1, _⟩
      · exact ⟨none, 0, by rw [h1, h2]; rfl⟩
      · exact ⟨_, cap, h1⟩
    subst hv1
    repeat' (first | (refine cl (Frame1_tr (Q.getD i []) (hgd (by omega))) ?_; rintro r Γ' ⟨rfl, rfl⟩; refine n0 ?_) | (refine cl (wstr_tr 143 b_ p1 (.slice q T.length cap) hp1 T (frame (Q.getD i [])) (by rw [frame_length]; have := hgd (by omega); omega)) ?_; rintro r Γ' ⟨v2, rfl⟩; refine n2 ?_) | (refine cl (segName_tr (lastS S) hn0 hn1) ?_; rintro r Γ' ⟨rfl, rfl⟩; refine n0 ?_) | refine mv ?_ | refine asn ?_ | refine jn ?_ | refine nl ?_ | refine ld rfl ?_ | refine nc ?_ | refine f0 ?_ | refine xt2 ?_ | refine sq ?_ | refine rg ?_ | refine lnb ?_ | refine lls rfl ?_ | refine ad ?_ | refine sb ?_ | refine lss ?_ | refine eql ?_ | refine neq ?_ | refine p1 ?_ | refine p0 ?_ | refine sk2 ?_ | refine kp ?_ | refine ct ?_ | refine cf ?_ | (refine cd (fun hc => ?_) (fun hc => ?_) <;> try (exfalso; omega)) | (refine cn (fun hc => ?_) (fun hc => ?_) <;> try (exfalso; omega)) | refine bl ?_ | refine ib ?_ | refine xt ?_ | refine bx (fun b_ => ?_) | refine al (fun b_ => ?_) | refine sr rfl ?_ | refine la rfl ?_ | refine ixa rfl rfl ?_ | refine fe ?_ | refine lde rfl ?_ | refine lae rfl ?_ | refine fa ?_ | refine sne ?_ | refine cc ?_ | refine af_ ?_ | (refine gd (fun hc => ?_) (fun hc => ?_) <;> try (exfalso; omega)) | (refine gn (fun hc => ?_) (fun hc => ?_) <;> try (exfalso; omega)) | refine aw ?_ | refine sw ?_ | refine ane ?_ | refine cb (fun hc => ?_) (fun hc => ?_) | refine gs (fun hc => ?_) (fun hc => ?_) | refine J_draw (id := 1) [(0, true, []), (1, true, []), (2, true, []), (3, true, []), (4, true, []), (5, true, []), (6, true, []), (7, true, []), (8, true, []), (9, true, []), (10, true, []), (11, true, [])] (by kernel_rfl) ?_ | refine J_draw (id := 13) [(0, true, []), (1, true, []), (2, true, []), (3, true, []), (4, true, []), (5, true, []), (6, true, []), (7, false, [0, 1, 2, 3]), (8, false, [0, 1, 2, 3]), (9, false, []), (10, true, [])] (by kernel_rfl) ?_ | refine J_draw (id := 16) [(0, true, []), (1, true, []), (2, true, []), (3, true, []), (4, false, [0, 1, 2, 3]), (5, true, []), (6, true, []), (7, true, []), (8, false, [])] (by kernel_rfl) ?_ | refine J_draw (id := 17) [(0, true, []), (1, true, []), (2, true, []), (3, true, []), (4, true, []), (5, true, []), (6, true, []), (7, false, [0, 1, 2, 3]), (8, false, []), (9, true, [])] (by kernel_rfl) ?_ | refine JS_cons rfl rfl (RO_move rfl) ?_ | refine JS_cons rfl rfl (RO_nilCheck rfl) ?_ | refine JS_cons rfl rfl (RO_fieldAddr0 rfl) ?_ | refine JS_cons rfl rfl (RO_load rfl (by rfl)) ?_ | refine JS_off rfl ?_ | refine JS_cons rfl rfl (RO_extract rfl rfl) ?_ | refine JS_cons rfl rfl (RO_fieldAddr rfl) ?_ | refine JS_cons rfl rfl (RO_lnb rfl) ?_ | refine JS_cons rfl rfl (RO_lls rfl) ?_ | refine JS_cons rfl rfl (RO_add_in rfl rfl (by omega)) ?_ | refine JS_cons rfl rfl (RO_sub_in rfl rfl (by omega)) ?_ | refine JS_cons rfl rfl (RO_ixa rfl rfl (by omega)) ?_ | refine JS_cons rfl rfl (RO_fe rfl) ?_ | refine JS_cons rfl rfl (RO_lde rfl (by omega) rfl) ?_ | refine JS_offu rfl ?_ | refine JS_cons rfl rfl (RO_cc rfl rfl (by omega)) ?_ | refine JS_cons rfl rfl (RO_lae rfl (by omega) (by repeat constructor)) ?_ | refine JS_cons rfl rfl (RO_loadAgg rfl (by repeat constructor)) ?_ | fail)
    · have hi' : i < Q.length := by omega
      exact ag (again (i + 1, (i : Int) + 1, .pointer (some ⟨b_, 0, none⟩), v2, T ++ frame (Q.getD i [])) ⟨by dsimp only; omega, hi', .inr rfl, by dsimp only; rw [hW, frames_take hi']⟩ (by dsimp only; omega))
    · have hil : i = Q.length := by omega
      rw [hil, List.take_length, ← hT] at hW
      subst hW
      have hTl' : (layT S h tell Q).length ≤ 65544 * 101 := hTl
      have hne : layT S h tell Q ≠ [] := by
        rw [hT]; intro he
        have := @frames_pos Q hps0
        rw [he] at this; exact absurd this (by simp)
      have hz0' : 0 ≤ (S.getD (((S.length : Nat) : Int) - 1).toNat segE.dflt).size := hz0
      have hz1' : (S.getD (((S.length : Nat) : Int) - 1).toNat segE.dflt).size ≤ 100000000 := hz1
      have hnl : (segFile (lastS S)).length ≤ 100000 := Nat.le_trans (segName_le (by omega)) (by decide)
      repeat' (first | (refine cl (str_tr 143 b_ p1 (.slice q (layT S h tell Q).length cap) (layT S h tell Q) hne) ?_; rintro r Γ' ⟨rfl, rfl⟩; refine n1 ?_) | (refine cl (append_tr d m D hD (segFile (lastS S)) (layT S h tell Q) hnl (by omega)) ?_; rintro r Γ' ⟨rfl, rfl⟩; refine n2 ?_) | (refine cl (len_tr 143 b_ p1 q (layT S h tell Q).length cap) ?_; rintro r Γ' ⟨rfl, rfl⟩; refine n1 ?_) | refine mv ?_ | refine asn ?_ | refine jn ?_ | refine nl ?_ | refine ld rfl ?_ | refine nc ?_ | refine f0 ?_ | refine xt2 ?_ | refine sq ?_ | refine rg ?_ | refine lnb ?_ | refine lls rfl ?_ | refine ad ?_ | refine sb ?_ | refine lss ?_ | refine eql ?_ | refine neq ?_ | refine p1 ?_ | refine p0 ?_ | refine sk2 ?_ | refine kp ?_ | refine ct ?_ | refine cf ?_ | (refine cd (fun hc => ?_) (fun hc => ?_) <;> try (exfalso; omega)) | (refine cn (fun hc => ?_) (fun hc => ?_) <;> try (exfalso; omega)) | refine bl ?_ | refine ib ?_ | refine xt ?_ | refine bx (fun b_ => ?_) | refine al (fun b_ => ?_) | refine sr rfl ?_ | refine la rfl ?_ | refine ixa rfl rfl ?_ | refine fe ?_ | refine lde rfl ?_ | refine lae rfl ?_ | refine fa ?_ | refine sne ?_ | refine cc ?_ | refine af_ ?_ | (refine gd (fun hc => ?_) (fun hc => ?_) <;> try (exfalso; omega)) | (refine gn (fun hc => ?_) (fun hc => ?_) <;> try (exfalso; omega)) | refine aw ?_ | refine sw ?_ | refine ane ?_ | refine cb (fun hc => ?_) (fun hc => ?_) | refine gs (fun hc => ?_) (fun hc => ?_) | refine J_draw (id := 1) [(0, true, []), (1, true, []), (2, true, []), (3, true, []), (4, true, []), (5, true, []), (6, true, []), (7, true, []), (8, true, []), (9, true, []), (10, true, []), (11, true, [])] (by kernel_rfl) ?_ | refine J_draw (id := 13) [(0, true, []), (1, true, []), (2, true, []), (3, true, []), (4, true, []), (5, true, []), (6, true, []), (7, false, [0, 1, 2, 3]), (8, false, [0, 1, 2, 3]), (9, false, []), (10, true, [])] (by kernel_rfl) ?_ | refine J_draw (id := 16) [(0, true, []), (1, true, []), (2, true, []), (3, true, []), (4, false, [0, 1, 2, 3]), (5, true, []), (6, true, []), (7, true, []), (8, false, [])] (by kernel_rfl) ?_ | refine J_draw (id := 17) [(0, true, []), (1, true, []), (2, true, []), (3, true, []), (4, true, []), (5, true, []), (6, true, []), (7, false, [0, 1, 2, 3]), (8, false, []), (9, true, [])] (by kernel_rfl) ?_ | refine JS_cons rfl rfl (RO_move rfl) ?_ | refine JS_cons rfl rfl (RO_nilCheck rfl) ?_ | refine JS_cons rfl rfl (RO_fieldAddr0 rfl) ?_ | refine JS_cons rfl rfl (RO_load rfl (by rfl)) ?_ | refine JS_off rfl ?_ | refine JS_cons rfl rfl (RO_extract rfl rfl) ?_ | refine JS_cons rfl rfl (RO_fieldAddr rfl) ?_ | refine JS_cons rfl rfl (RO_lnb rfl) ?_ | refine JS_cons rfl rfl (RO_lls rfl) ?_ | refine JS_cons rfl rfl (RO_add_in rfl rfl (by omega)) ?_ | refine JS_cons rfl rfl (RO_sub_in rfl rfl (by omega)) ?_ | refine JS_cons rfl rfl (RO_ixa rfl rfl (by omega)) ?_ | refine JS_cons rfl rfl (RO_fe rfl) ?_ | refine JS_cons rfl rfl (RO_lde rfl (by omega) rfl) ?_ | refine JS_offu rfl ?_ | refine JS_cons rfl rfl (RO_cc rfl rfl (by omega)) ?_ | refine JS_cons rfl rfl (RO_lae rfl (by omega) (by repeat constructor)) ?_ | refine JS_cons rfl rfl (RO_loadAgg rfl (by repeat constructor)) ?_ | fail)
      · have hc1 : (layA S D h tell Q).1 ≠ 0 := by assumption
        have e1 : layE S D h tell Q = (layA S D h tell Q).1 := if_pos hc1
        have e2 : layS S D h tell Q = S := if_pos hc1
        have e3 : layD S D h tell Q = (layA S D h tell Q).2 := if_pos hc1
        rw [e1, e2, e3]
        refine rt ?_
        exact ⟨_, ⟨rfl, rfl⟩, _, by repeat constructor⟩
      · have hc1 : ¬ (layA S D h tell Q).1 ≠ 0 := by
          have : (layA S D h tell Q).1 = 0 := by assumption
          simp [this]
        have e1 : layE S D h tell Q = ((layA S D h tell Q).2.sync (segFile (lastS S))).1 := if_neg hc1
        have e2 : layS S D h tell Q = grown S h tell Q := if_neg hc1
        have e3 : layD S D h tell Q = ((layA S D h tell Q).2.sync (segFile (lastS S))).2 := if_neg hc1
        have hg : (grown S h tell Q).getD (((S.length : Nat) : Int) - 1).toNat .none = { lastS S with size := (lastS S).size + (layT S h tell Q).length } := by
          have := lastS_setLast hS { lastS S with size := (lastS S).size + (layT S h tell Q).length }
          unfold lastS at this
          rw [setLast_length] at this
          exact this
        have hgn0 : 0 ≤ ((grown S h tell Q).getD (((S.length : Nat) : Int) - 1).toNat .none).number := by rw [hg]; exact hn0
        have hgn1 : ((grown S h tell Q).getD (((S.length : Nat) : Int) - 1).toNat .none).number < 100 := by rw [hg]; exact hn1
        have hgf : segName ((grown S h tell Q).getD (((S.length : Nat) : Int) - 1).toNat .none).number.toNat = segFile (lastS S) := by rw [hg]; rfl
        repeat' (first | refine sre rfl ?_ | refine lae rfl ?_ (by rw [List.length_set]; omega) | (refine cl (segName_tr ((grown S h tell Q).getD (((S.length : Nat) : Int) - 1).toNat .none) hgn0 hgn1) ?_; rintro r Γ' ⟨rfl, rfl⟩; rw [hgf]; refine n0 ?_) | (refine cl (sync_tr d m (layA S D h tell Q).2 (hD.append _ _) (segFile (lastS S))) ?_; rintro r Γ' ⟨rfl, rfl⟩; refine n2 ?_) | refine mv ?_ | refine asn ?_ | refine jn ?_ | refine nl ?_ | refine ld rfl ?_ | refine nc ?_ | refine f0 ?_ | refine xt2 ?_ | refine sq ?_ | refine rg ?_ | refine lnb ?_ | refine lls rfl ?_ | refine ad ?_ | refine sb ?_ | refine lss ?_ | refine eql ?_ | refine neq ?_ | refine p1 ?_ | refine p0 ?_ | refine sk2 ?_ | refine kp ?_ | refine ct ?_ | refine cf ?_ | (refine cd (fun hc => ?_) (fun hc => ?_) <;> try (exfalso; omega)) | (refine cn (fun hc => ?_) (fun hc => ?_) <;> try (exfalso; omega)) | refine bl ?_ | refine ib ?_ | refine xt ?_ | refine bx (fun b_ => ?_) | refine al (fun b_ => ?_) | refine sr rfl ?_ | refine la rfl ?_ | refine ixa rfl rfl ?_ | refine fe ?_ | refine lde rfl ?_ | refine lae rfl ?_ | refine fa ?_ | refine sne ?_ | refine cc ?_ | refine af_ ?_ | (refine gd (fun hc => ?_) (fun hc => ?_) <;> try (exfalso; omega)) | (refine gn (fun hc => ?_) (fun hc => ?_) <;> try (exfalso; omega)) | refine aw ?_ | refine sw ?_ | refine ane ?_ | refine cb (fun hc => ?_) (fun hc => ?_) | refine gs (fun hc => ?_) (fun hc => ?_) | refine J_draw (id := 1) [(0, true, []), (1, true, []), (2, true, []), (3, true, []), (4, true, []), (5, true, []), (6, true, []), (7, true, []), (8, true, []), (9, true, []), (10, true, []), (11, true, [])] (by kernel_rfl) ?_ | refine J_draw (id := 13) [(0, true, []), (1, true, []), (2, true, []), (3, true, []), (4, true, []), (5, true, []), (6, true, []), (7, false, [0, 1, 2, 3]), (8, false, [0, 1, 2, 3]), (9, false, []), (10, true, [])] (by kernel_rfl) ?_ | refine J_draw (id := 16) [(0, true, []), (1, true, []), (2, true, []), (3, true, []), (4, false, [0, 1, 2, 3]), (5, true, []), (6, true, []), (7, true, []), (8, false, [])] (by kernel_rfl) ?_ | refine J_draw (id := 17) [(0, true, []), (1, true, []), (2, true, []), (3, true, []), (4, true, []), (5, true, []), (6, true, []), (7, false, [0, 1, 2, 3]), (8, false, []), (9, true, [])] (by kernel_rfl) ?_ | refine JS_cons rfl rfl (RO_move rfl) ?_ | refine JS_cons rfl rfl (RO_nilCheck rfl) ?_ | refine JS_cons rfl rfl (RO_fieldAddr0 rfl) ?_ | refine JS_cons rfl rfl (RO_load rfl (by rfl)) ?_ | refine JS_off rfl ?_ | refine JS_cons rfl rfl (RO_extract rfl rfl) ?_ | refine JS_cons rfl rfl (RO_fieldAddr rfl) ?_ | refine JS_cons rfl rfl (RO_lnb rfl) ?_ | refine JS_cons rfl rfl (RO_lls rfl) ?_ | refine JS_cons rfl rfl (RO_add_in rfl rfl (by omega)) ?_ | refine JS_cons rfl rfl (RO_sub_in rfl rfl (by omega)) ?_ | refine JS_cons rfl rfl (RO_ixa rfl rfl (by omega)) ?_ | refine JS_cons rfl rfl (RO_fe rfl) ?_ | refine JS_cons rfl rfl (RO_lde rfl (by omega) rfl) ?_ | refine JS_offu rfl ?_ | refine JS_cons rfl rfl (RO_cc rfl rfl (by omega)) ?_ | refine JS_cons rfl rfl (RO_lae rfl (by omega) (by repeat constructor)) ?_ | refine JS_cons rfl rfl (RO_loadAgg rfl (by repeat constructor)) ?_ | fail)
        rw [e1, e2, e3]
        refine rt ?_
        exact ⟨_, ⟨rfl, rfl⟩, _, by repeat constructor⟩
theorem lay_tr (w d m : Nat) (h0 : Hrd) (ev sv pv : Value) (S : List Seg) (D : DiskS) (hD : D.Ok) (h : Hrd) (hh : h.In) (tell : Bool) (ps : List (List UInt8)) (hps : ∀ p ∈ ps, p.length ≤ 65536) (hpl : ps.length ≤ 100) (hS : S ≠ []) (hSl : S.length ≤ 100000) (hn0 : 0 ≤ (lastS S).number) (hn1 : (lastS S).number < 100) (hz0 : 0 ≤ (lastS S).size) (hz1 : (lastS S).size ≤ 100000000) (hq : (tell = true ∨ (lastS S).size = 0) ∨ ps ≠ []) :
    Tr Tryz.prog 50 [.pointer (some ⟨w, 0, none⟩), hrdV h, .bool tell, pv] [blk w (lcell d h0 ev sv), sl 94 segE sv S, blk d (dcell m D), mp fmap m D.files, sl 9 strE pv ps]
      fun v Γ => v = .int .i64 (layE S D h tell ps) ∧ Γ = [blk w (lcell d h0 ev sv), sl 94 segE sv (layS S D h tell ps), blk d (dcell m (layD S D h tell ps)), mp fmap m (layD S D h tell ps).files] := by
  by_cases hc : tell = true ∨ (lastS S).size = 0
  · exact lay1_tr w d m h0 ev sv pv S D hD h hh tell ps hps hpl hS hSl hn0 hn1 hz0 hz1 hc
  · exact lay2_tr w d m h0 ev sv pv S D hD h hh tell ps hps hpl hS hSl hn0 hn1 hz0 hz1 hc (by rcases hq with h | h; exact absurd h hc; exact h)
end Go.Proofs.YtaeefjcbmkiiaaaGreatDoor
/- Read again: a group of cells of a slice's element. -/
namespace Go.Proofs.YtaeefjcbmkiiaaaGreatDoor.Sl
open Go
section
open Go.RowKit
variable {c : Ctx} {k : List Item} {st : St} {Γ : List Assn} {d : Option Tmp} {ty : TypeId} {pos : String} {af : Array Edge} {g : Option (Nat × Bool)}
theorem RO_lae {x : Operand} {T : TypeId} {α : Type} {e : EncT α} {v : Value} {L : List α} {i j n : Nat} {us : List Value} [ht : TAgg c.P T n] (hv : ev st x = some (.pointer (some ⟨vb v, el (vo v) i e.sz j, none⟩))) [hr : RdG Γ v e L] (hb : i < L.length) (hl : GetN (e.enc (L.getD i e.dflt)) j n us) : RO c st Γ ⟨d, .load T x, ty, pos, af, g⟩ (.agg ⟨us⟩) := fun a w ha hS => by
  obtain ⟨cap, E', fz, cur, h1, h2, h3⟩ := (hr.h _ _ _ hS).at hb
  obtain ⟨h4, h5⟩ := hl.get
  have := run_loadVar_agg (P := c.P) ht.a ht.s h4 (w := w) (b := vb v) (o := el (vo v) i e.sz j) (fun q hq => by
    have hq' : q < us.length := by omega
    have h6 := h5 q hq
    rw [List.getElem?_eq_getElem hq'] at h6 ⊢
    have hjq : j + q < e.sz := by
      rw [← e.len (L.getD i e.dflt)]
      rcases Nat.lt_or_ge (j + q) (e.enc (L.getD i e.dflt)).length with h | h
      · exact h
      · rw [List.getElem?_eq_none h] at h6; cases h6
    refine cell_of (l := cur.toList) h2 ?_
    rw [show el (vo v) i e.sz j + q = el (vo v) i e.sz (j + q) by unfold el; omega, h3 _ hjq, h6])
  simp [execOp, ev_eval ha hv, Instr.loadAt, Instr.sureAddr, this]
theorem RO_bld {T : TypeId} {parts : List (Nat × Operand)} {pl : List (Nat × Nat)} {zv : Value} {zl zl' : List Value} [ht : TPlaces c.P T pl] [hZ : TZero c.P T zv] (hz0 : zv = .agg ⟨zl⟩) (hp : FillS st pl zl parts zl') :
    RO c st Γ ⟨d, .build T ⟨parts⟩, ty, pos, af, g⟩ (.agg ⟨zl'⟩) := fun a w ha hS => by
  have hz : zv.cells = ⟨zl⟩ := by rw [hz0]; rfl
  obtain ⟨fs, h1, h2, h3⟩ := ht.h
  have hm : (fs.mapM fun f => do pure (f.offset, ← sizeOf f.type) : Sem (Array (Nat × Nat))).run c.P w = .ok ⟨pl⟩ w := by
    have key : ∀ (l : List Field), l.all (fun f => (szOf c.P f.type).isSome) = true → (l.mapM fun f => do pure (f.offset, ← sizeOf f.type) : Sem (List (Nat × Nat))).run c.P w = .ok (l.map fun f => (f.offset, (szOf c.P f.type).getD 0)) w := by
      intro l
      induction l with
      | nil => intro _; rfl
      | cons f l ih =>
        intro hl
        simp only [List.all_cons, Bool.and_eq_true] at hl
        obtain ⟨s, hs⟩ := Option.isSome_iff_exists.1 hl.1
        rw [List.mapM_cons, Sem.run_bind]
        simp only [Sem.run_bind, run_sizeOf hs, Result.andThen_ok, Sem.run_pure, ih hl.2, List.map_cons, hs, Option.getD_some]
    obtain ⟨fl⟩ := fs
    rw [show (⟨fl⟩ : Array Field) = fl.toArray from rfl, List.mapM_toArray, Sem.run_map, key fl h3]
    simp only [Result.andThen_ok]
    rw [← h2]
  have hmap : (((⟨parts⟩ : Array (Nat × Operand)).map fun (p : Nat × Operand) => (p.1, a.eval p.2)).toList) = parts.map fun p => (p.1, a.eval p.2) := by simp
  simp only [execOp, Instr.build, Sem.run_bind, run_zeroValue hZ.z, Result.andThen_ok, run_underlying h1, hm, hz]
  rw [show ((⟨parts⟩ : Array (Nat × Operand)).map fun x => match x with | (i, x) => (i, a.eval x)).toList = parts.map fun p => (p.1, a.eval p.2) from hmap, fill_of ha (fun i => (⟨pl⟩ : Array (Nat × Nat))[i]?) (fun i => by simp) hp]
  rfl
theorem RO_cc {x y : Operand} {T U : TypeId} {a b : List UInt8} (hx : ev st x = some (vs a)) (hy : ev st y = some (vs b)) (hb : a.length + b.length ≤ 9223372036854775807) : RO c st Γ ⟨d, .binOp .add T x y U, ty, pos, af, g⟩ (vs (a ++ b)) :=
  RO_str hx hy fun w => by
    simp only [binOp, Op.stringOp, bs_size, bs_append]
    have hmax : IntKind.i64.max = 9223372036854775807 := by decide
    rw [if_neg (by rw [hmax]; omega)]
    rfl
theorem RO_slil {α : Type} {e : EncT α} {v : Value} {L : List α} {x lo : Operand} {T : TypeId} {i : IntKind} {m : Int} {E bb : Nat} [ht : TSlice c.P T E] (hv : ev st x = some v) [hr : RdG Γ v e L] [hz : ESize c.P E e.sz bb] (hl : ev st lo = some (.int i m)) (hb : 0 ≤ m ∧ m ≤ L.length) : RO c st Γ ⟨d, .slice T x (some lo) none none, ty, pos, af, g⟩ (vw v m.toNat L.length e.sz) := fun a w ha hS => by
  obtain ⟨p, M, h1, h2⟩ := (hr.h _ _ _ hS).cap
  exact RO_slice (c := c) (Γ := Γ) (sz := e.sz) (lo := some lo) (hi := none) hv ⟨i, by rw [hl, Int.toNat_of_nonneg hb.1]⟩ (fun p' n' m' he => by rw [h1] at he; cases he; rfl) (fun w hS => by
    obtain ⟨p, M, h1, h2⟩ := (hr.h _ _ _ hS).cap
    exact ⟨p, _, M, h1, h2, by omega, h2⟩) a w ha hS
/-- append(s, xs[a:b]...), s owned. -/
theorem apv {ops : Array Oper} {rs : List Oper} {l : List Stp} {k : List Item} {x y : Operand} {T : TypeId} {α : Type} {e : EncT α} {K L : List α} {E bb a b : Nat} {z s v : Value} {Γ' : List Assn} [ht : TSlice c.P T E] [hz : ESize c.P E e.sz bb] [hZ : TZero c.P E z] (hx : ev st x = some s) (hy : ev st y = some (vw v a b e.sz)) [hs : SelS Γ s E e K Γ'] [hr : RdG Γ v e L] (hab : a ≤ b) (hbl : b ≤ L.length)
    (h : ∀ v', JS c ops rs l k (stput d v' st) (sl E e v' (K ++ (L.take b).drop a) :: Γ')) (hb : (K.length + ((L.take b).drop a).length) * bb ≤ 140737488355328) (hm : K.length + ((L.take b).drop a).length ≤ 9223372036854775807) (hzl : z.cells.size = e.sz := by rfl)
    (hg : gOk ops st ⟨d, .call ⟨.builtin .append, #[x, y], #[T, T]⟩, ty, pos, af, g⟩ = some true := by rfl) (hd : dOk d c.n = true := by rfl) : JR c ops (⟨⟨d, .call ⟨.builtin .append, #[x, y], #[T, T]⟩, ty, pos, af, g⟩, false, rs⟩ :: l) k st Γ :=
  apd hx hy (fun B F w hS => tgt_sl (hS.perm hs.h.perm)) (fun B F w hS => (hr.h B F w hS).view hab hbl) h hb hm hzl hg hd
/-- Is a guard known? -/
theorem glt {fl : Bool} {ops : Array Oper} {rs : List Oper} {l : List Stp} {k : List Item} {o : Oper} {j d : Nat} {want : Bool} (h : JR c ops (⟨o, fl, rs⟩ :: l) k st Γ) (hg : o.guard = some (j, want) := by rfl) (hd : (ops[j]?).bind (·.dst) = some d := by rfl) (hv : look st d = some (.bool true) := by rfl) : JR c ops (⟨o, fl, rs⟩ :: l) k st Γ := h
theorem glf {fl : Bool} {ops : Array Oper} {rs : List Oper} {l : List Stp} {k : List Item} {o : Oper} {j d : Nat} {want : Bool} (h : JR c ops (⟨o, fl, rs⟩ :: l) k st Γ) (hg : o.guard = some (j, want) := by rfl) (hd : (ops[j]?).bind (·.dst) = some d := by rfl) (hv : look st d = some (.bool false) := by rfl) : JR c ops (⟨o, fl, rs⟩ :: l) k st Γ := h
/-- A guard that was itself not carried out: what hangs on it is not either. -/
def gOff (ops : Array Oper) (st : St) (o : Oper) : Bool :=
  match o.guard with
  | none => false
  | some (j, _) => match (ops[j]?).bind (·.dst) with
    | some d => match look st d with
      | some (.tuple _) => true
      | _ => false
    | none => false
theorem gOff_wanted {n : Nat} {ops : Array Oper} {o : Oper} {a : Act} (h : gOff ops st o = true) (ha : Agree n st a) : Region.wanted o (yielded ops a.tmps) = false := by
  unfold gOff at h
  unfold Region.wanted
  split at h
  · cases h
  · rename_i j want hg
    rw [hg]
    dsimp only at h ⊢
    split at h
    · rename_i d hd
      split at h
      · rename_i u hb
        have := ha.2.2 d _ hb
        have hy : yielded ops a.tmps j = none := by
          unfold yielded
          rw [hd]
          simp only [Option.bind_some]
          rw [Array.getD_eq_getD_getElem?] at this
          cases hx : a.tmps[d]? with
          | none => rfl
          | some v => rw [hx] at this; simp only [Option.getD_some] at this; subst this; rfl
        rw [hy]; rfl
      · cases h
    · cases h
theorem sku {fl : Bool} {ops : Array Oper} {rs : List Oper} {l : List Stp} {k : List Item} {o : Op} (h : JR c ops l k (stput d undef st) Γ) (hg : gOff ops st ⟨d, o, ty, pos, af, g⟩ = true := by rfl) (hd : dOk d c.n = true := by rfl) : JR c ops (⟨⟨d, o, ty, pos, af, g⟩, fl, rs⟩ :: l) k st Γ := by
  intro b cs a w h1 h2 h3 h4
  unfold CR
  simp only [gOff_wanted hg h3, Bool.false_eq_true, if_false]
  exact h b cs _ w h1 h2 (h3.put hd undef) h4
theorem JS_offu {ops : Array Oper} {r : Oper} {rs : List Oper} {l : List Stp} {k : List Item} (hg : gOff ops st r = true) (h : JS c ops rs l k st Γ) : JS c ops (r :: rs) l k st Γ := by
  intro b cs a w h1 h2 h3 h4
  obtain ⟨h5, h6⟩ := h b cs a w h1 h2 h3 h4
  refine ⟨fun x hx => ?_, h6⟩
  rcases List.mem_cons.1 hx with rfl | hx
  · intro hw
    rw [gOff_wanted hg h3] at hw; cases hw
  · exact h5 x hx
theorem ssl {fl : Bool} {ops : Array Oper} {l : List Stp} {k : List Item} {x y : Operand} {T U : TypeId} {a b : List UInt8} (h : JR c ops l k (stput d (.bool (Op.bytesLess a b)) st) Γ) (hx : ev st x = some (vs a) := by rfl) (hy : ev st y = some (vs b) := by rfl) (hg : gOk ops st ⟨d, .binOp .lss T x y U, ty, pos, af, g⟩ = some true := by rfl) (hd : dOk d c.n = true := by rfl) : JR c ops (⟨⟨d, .binOp .lss T x y U, ty, pos, af, g⟩, fl, []⟩ :: l) k st Γ :=
  ro h (RO_str hx hy fun w => by simp only [binOp, Op.stringOp, ByteArray.toList_mk, Sem.run_pure]) hg hd
/-- A call, the arguments first: where it does not fit, it fails at once. -/
theorem cle {k : List Item} {ops : Array Oper} {rs : List Oper} {l : List Stp} {xs : List Operand} {ats : Array TypeId} {f : FuncId} {us : List Value} {Pre R : List Assn} {Q : Value → List Assn → Prop} [IsFn c.P f] (hvs : evl st xs = some us) (ht : Tr c.P f us Pre Q) (h : ∀ v Γ', Q v Γ' → JS c ops rs l k (stput d v st) (Γ' ++ R))
    (hs : Split Γ Pre R := by (repeat constructor)) (hg : gOk ops st ⟨d, .call ⟨.value (.func f), ⟨xs⟩, ats⟩, ty, pos, af, g⟩ = some true := by rfl) (hd : dOk d c.n = true := by rfl) :
    JR c ops (⟨⟨d, .call ⟨.value (.func f), ⟨xs⟩, ats⟩, ty, pos, af, g⟩, false, rs⟩ :: l) k st Γ := cl ht h (evl_evs hvs) hs hg hd
end
end Go.Proofs.YtaeefjcbmkiiaaaGreatDoor.Sl
/- The log on a disk whose power stays: what is always so; saves and resets: plain. -/
namespace Go.Proofs.YtaeefjcbmkiiaaaGreatDoor
open Go Sl
set_option linter.unusedVariables false

/-- An index that these acts bear. -/
def goodI (n : Int) : Prop := n ≤ 33 ∨ n % 37 = 0
theorem SD.setTop {S : List Seg} {D : DiskS} (h : SD S D) (i : Int) : SD (setTop S i) D := by
  obtain ⟨A, q, rfl⟩ := ne_end h.ne
  have e : Go.Proofs.YtaeefjcbmkiiaaaGreatDoor.setTop (A ++ [q]) i = A ++ [{ q with top := max q.top i }] := by unfold Go.Proofs.YtaeefjcbmkiiaaaGreatDoor.setTop; rw [lastS_end, setLast_end]
  rw [e]
  refine { ok := h.ok, dead := h.dead, fuse := h.fuse, ne := by simp, cnt := by have := h.cnt; simpa using this, num := fun j s hs => ?_, files := by rw [h.files]; simp [segFile] }
  rcases Nat.lt_or_ge j A.length with hi | hi
  · exact h.num j s (by rw [List.getElem?_append_left hi] at hs ⊢; exact hs)
  · rw [List.getElem?_append_right hi] at hs
    rcases Nat.eq_or_lt_of_le hi with he | hlt
    · rw [← he] at hs; simp at hs; subst hs; rw [← he]; exact h.numEnd
    · rw [List.getElem?_eq_none (by simp; omega)] at hs; cases hs
theorem mem_total {p : Nm × FileS} {l : List (Nm × FileS)} (h : p ∈ l) : p.2.bytes.length ≤ DiskS.total l := by
  induction l with
  | nil => cases h
  | cons q l ih =>
    rw [total_cons]
    rcases List.mem_cons.1 h with rfl | h
    · exact Nat.le_add_right _ _
    · have := ih h; omega
theorem SD.sizes {S : List Seg} {D : DiskS} (h : SD S D) : ∀ s ∈ S, 0 ≤ s.size ∧ s.size ≤ D.most := by
  intro s hs
  have : (segFile s, s.size) ∈ D.files.map fun p => (p.1, (p.2.bytes.length : Int)) := by rw [h.files]; exact List.mem_map.2 ⟨s, hs, rfl⟩
  obtain ⟨p, hp, he⟩ := List.mem_map.1 this
  have h1 : (p.2.bytes.length : Int) = s.size := congrArg Prod.snd he
  have h2 : p.2.bytes.length ≤ DiskS.total D.files := mem_total hp
  have := h.ok.sz
  omega
theorem lastS_mem {S : List Seg} (h : S ≠ []) : lastS S ∈ S := by
  obtain ⟨A, q, rfl⟩ := ne_end h
  rw [lastS_end]; simp
theorem SD.num_le {S : List Seg} {D : DiskS} (h : SD S D) : ∀ s ∈ S, 1 ≤ s.number ∧ s.number ≤ 20 := by
  intro s hs
  obtain ⟨i, hi, rfl⟩ := List.getElem_of_mem hs
  have := h.num i S[i] (by simp [hi])
  have := h.cnt
  omega

/-! ### entries -/
theorem getD_of {l : List Ent} {i : Nat} (h : i < l.length) : l.getD i .none = l[i] := by rw [List.getD_eq_getElem?_getD, List.getElem?_eq_getElem h]; rfl
theorem rise_one {e : Ent} (h : e.In) (h0 : 0 < e.index) : Rise [e] where
  up i hi := by have : i = 0 := by simpa using hi
                subst this; simp
  in_ x hx := by rw [List.mem_singleton.1 hx]; exact h
  pos x hx := by rw [List.mem_singleton.1 hx]; exact h0
theorem Rise.last {l : List Ent} (h : Rise l) (h0 : 0 < l.length) : (lastE l).index = (headE l).index + (l.length - 1 : Nat) := by
  have := h.up (l.length - 1) (by omega)
  unfold lastE headE
  rw [show ((l.length : Int) - 1).toNat = l.length - 1 by omega]
  exact this
theorem putE_cases (l : List Ent) (e : Ent) (hl : Rise l) (he : e.In) (h0 : 0 < e.index) : putE l e = [e] ∨ (l ≠ [] ∧ 0 ≤ e.index - (headE l).index ∧ e.index - (headE l).index ≤ l.length ∧ putE l e = l.take (e.index - (headE l).index).toNat ++ [e]) := by
  unfold putE
  split
  · exact .inl rfl
  · rename_i hn
    right
    simp only [not_or] at hn
    obtain ⟨h1, h2, h3⟩ := hn
    have h0 : 0 < l.length := by omega
    have hlast := hl.last h0
    have hmem : ∀ i, i < l.length → I64 (l.getD i .none).index := fun i hi => by
      rw [getD_of hi]; exact (hl.in_ _ (List.getElem_mem hi)).i
    have hA : I64 (lastE l).index := hmem _ (by omega)
    have hB : I64 (headE l).index := hmem _ h0
    have hE := he.i
    unfold I64 at hA hB hE
    have hle : e.index - (headE l).index ≤ l.length := by
      by_cases hm : (lastE l).index + 1 ≤ 9223372036854775807
      · rw [wrap_in (by omega) hm] at h2; omega
      · have : (lastE l).index + 1 = 9223372036854775808 := by omega
        rw [this] at h2
        have : IntKind.i64.wrap 9223372036854775808 = -9223372036854775808 := by decide
        rw [this] at h2; omega
    exact ⟨List.length_pos_iff.1 h0, by omega, hle, rfl⟩
theorem putE_rise {l : List Ent} {e : Ent} (hl : Rise l) (he : e.In) (h0 : 0 < e.index) : Rise (putE l e) := by
  rcases putE_cases l e hl he h0 with h | ⟨hne, h1, h2, h⟩
  · rw [h]; exact rise_one he h0
  · rw [h]
    generalize hk : (e.index - (headE l).index).toNat = k
    have hkl : k ≤ l.length := by omega
    have hlen : (l.take k).length = k := by rw [List.length_take]; omega
    have hhead : ∀ x : Ent, (if 0 < k then (l.getD 0 .none).index else x.index) = (headE l).index → ((l.take k ++ [x]).getD 0 .none).index = (headE l).index := by
      intro x hx
      split at hx
      · rename_i hk0
        rw [List.getD_eq_getElem?_getD, List.getElem?_append_left (by omega), List.getElem?_take_of_lt hk0, ← List.getD_eq_getElem?_getD]; exact hx
      · rename_i hk0
        have : k = 0 := by omega
        subst this; simpa using hx
    have hh : ((l.take k ++ [e]).getD 0 .none).index = (headE l).index := by
      apply hhead
      split
      · rfl
      · omega
    refine { up := fun i hi => ?_, in_ := fun x hx => ?_, pos := fun x hx => ?_ }
    · rw [hh]
      rw [List.length_append, hlen] at hi
      simp only [List.length_cons, List.length_nil] at hi
      rcases Nat.lt_or_ge i k with hik | hik
      · rw [List.getD_eq_getElem?_getD, List.getElem?_append_left (by omega), List.getElem?_take_of_lt hik, ← List.getD_eq_getElem?_getD]
        exact hl.up i (by omega)
      · have : i = k := by omega
        subst this
        rw [List.getD_eq_getElem?_getD, List.getElem?_append_right (by omega), hlen]
        simp; omega
    · rcases List.mem_append.1 hx with hx | hx
      · exact hl.in_ x (List.mem_of_mem_take hx)
      · rw [List.mem_singleton.1 hx]; exact he
    · rcases List.mem_append.1 hx with hx | hx
      · exact hl.pos x (List.mem_of_mem_take hx)
      · rw [List.mem_singleton.1 hx]; exact h0
theorem putE_mem {l : List Ent} {e x : Ent} (h : x ∈ putE l e) : x = e ∨ x ∈ l := by
  unfold putE at h
  split at h
  · exact .inl (List.mem_singleton.1 h)
  · rcases List.mem_append.1 h with h | h
    · exact .inr (List.mem_of_mem_take h)
    · exact .inl (List.mem_singleton.1 h)
theorem putE_len (l : List Ent) (e : Ent) : (putE l e).length ≤ l.length + 1 := by
  unfold putE
  split
  · simp
  · rw [List.length_append, List.length_take]; simp; omega
/-- An entry far from all others stands alone. -/
theorem putE_alone {l : List Ent} {e : Ent} (hl : Rise l) (hg : ∀ x ∈ l, goodI x.index) (he : e.index = 500) : putE l e = [e] := by
  unfold putE
  rw [if_pos]
  by_cases h0 : (l.length : Int) = 0
  · exact .inl h0
  right
  have h0' : 0 < l.length := by omega
  have hlast := hl.last h0'
  have hm : ∀ i, i < l.length → goodI (l.getD i .none).index ∧ I64 (l.getD i .none).index := fun i hi => by
    rw [getD_of hi]; exact ⟨hg _ (List.getElem_mem hi), (hl.in_ _ (List.getElem_mem hi)).i⟩
  have hA : goodI (lastE l).index ∧ I64 (lastE l).index := hm _ (by omega)
  unfold goodI I64 at hA
  by_cases hb : e.index < (headE l).index
  · exact .inr hb
  left
  rw [wrap_in (by omega) (by omega)]
  refine Classical.byContradiction fun hc => ?_
  have h500 : (l.getD (500 - (headE l).index).toNat .none).index = 500 := by
    have hi : (500 - (headE l).index).toNat < l.length := by omega
    have := hl.up _ hi
    rw [this]
    show (headE l).index + _ = 500
    omega
  have hi : (500 - (headE l).index).toNat < l.length := by omega
  have := (hm _ hi).1
  rw [h500] at this
  unfold goodI at this
  omega

/-! ### what is always so -/
structure Live (W : LogS) (D : DiskS) (n : Nat) : Prop where
  sd : SD W.segs D
  rise : Rise W.ents
  good : ∀ e ∈ W.ents, goodI e.index
  len : W.ents.length ≤ n
  hin : W.hard.In
  h0 : 0 ≤ W.hard.term ∧ 0 ≤ W.hard.vote
theorem puts_live {W : LogS} {D : DiskS} {n : Nat} (hW : Live W D n) (l : List Ent) (hl : ∀ e ∈ l, e.In ∧ 0 < e.index ∧ goodI e.index) : Live (puts W l) D (n + l.length) := by
  induction l generalizing W n with
  | nil => exact hW
  | cons e l ih =>
    have he := hl e (List.mem_cons_self ..)
    have := ih (W := W.put e) (n := n + 1) { sd := hW.sd.setTop _, rise := putE_rise hW.rise he.1 he.2.1, good := fun x hx => by rcases putE_mem hx with rfl | hx; exact he.2.2; exact hW.good x hx, len := Nat.le_trans (putE_len _ _) (by have := hW.len; omega), hin := hW.hin, h0 := hW.h0 } fun x hx => hl x (List.mem_cons_of_mem _ hx)
    rw [show n + (e :: l).length = n + 1 + l.length by simp; omega]
    exact this
theorem puts_hard (W : LogS) (l : List Ent) : (puts W l).hard = W.hard := by
  induction l generalizing W with
  | nil => rfl
  | cons e l ih => exact ih _
theorem begun_how (S : List Seg) : begun S = S ∨ (begun S = next S ∧ S.length < 20) := by
  unfold begun
  split
  · rename_i h; exact .inr ⟨rfl, by have := h.2; omega⟩
  · exact .inl rfl
theorem there_new {S : List Seg} {D : DiskS} (h : SD S D) (hc : S.length < 20) : there D S (next S) = S := by
  unfold there
  rw [if_neg]
  rw [keys_of h.files]
  obtain ⟨A, q, rfl⟩ := ne_end h.ne
  have hnum := h.numEnd
  have e : lastS (next (A ++ [q])) = ⟨q.number + 1, 0, 0⟩ := by unfold next; rw [lastS_end, lastS_end]
  rw [e]
  exact segFile_notin h.num (by omega) (by simp [hnum])
/-- A save that may be: full, and nothing is changed, or done. -/
theorem save_live {W : LogS} {D : DiskS} {n : Nat} (hW : Live W D n) (h : Hrd) (hh : h.In) (h0 : 0 ≤ h.term ∧ 0 ≤ h.vote) (l : List Ent) (hl : ∀ e ∈ l, e.In ∧ goodI e.index) (hr : ∀ e ∈ l, e.right = true) (hn : l ≠ []) :
    ((W.save D h l).1 = 6 ∧ (W.save D h l).2 = (W, D) ∧ D.most < (DiskS.total D.files : Int) + (layT (begun W.segs) h (decide (h ≠ W.hard)) (l.map entText)).length) ∨ ((W.save D h l).1 = 0 ∧ Live (W.save D h l).2.1 (W.save D h l).2.2 (n + l.length) ∧ (W.save D h l).2.1.ents = l.foldl putE W.ents ∧ (W.save D h l).2.1.hard = h ∧ DiskS.total (W.save D h l).2.2.files = DiskS.total D.files + (layT (begun W.segs) h (decide (h ≠ W.hard)) (l.map entText)).length ∧ 0 < (layT (begun W.segs) h (decide (h ≠ W.hard)) (l.map entText)).length ∧ (W.save D h l).2.2.most = D.most) := by
  have hany : (l.any fun e => !e.right) = false := by
    rw [List.any_eq_false]
    intro e he
    rw [hr e he]; decide
  have hpos : ∀ e ∈ l, 0 < e.index := fun e he => by
    have := hr e he
    simp only [Ent.right, Bool.and_eq_true, decide_eq_true_eq] at this
    exact this.1.1.1
  unfold LogS.save
  rw [if_neg (by rw [hany]; simp; omega), if_neg (by rintro ⟨h1, _⟩; exact hn h1)]
  rcases lay_live hW.sd (begun_how W.segs) h (decide (h ≠ W.hard)) (l.map entText) with ⟨a, b, c, cf⟩ | ⟨a, b, c, d, e⟩
  · left
    rw [a, b, c, if_pos (by decide)]
    refine ⟨rfl, ?_, cf⟩
    have : (if more W.segs then there D W.segs (begun W.segs) else begun W.segs) = W.segs := by
      unfold begun
      split
      · rename_i hm; exact there_new hW.sd (by have := hm.2; omega)
      · rfl
    rw [this]
  · right
    rw [a, if_neg (by decide), b]
    dsimp only
    have hLv : Live { W with hard := h, segs := grown (begun W.segs) h (decide (h ≠ W.hard)) (l.map entText) } (layD (begun W.segs) D h (decide (h ≠ W.hard)) (l.map entText)) n := { sd := c, rise := hW.rise, good := hW.good, len := hW.len, hin := hh, h0 := h0 }
    refine ⟨rfl, puts_live hLv l fun x hx => ⟨(hl x hx).1, hpos x hx, (hl x hx).2⟩, ?_, puts_hard _ _, d, ?_, e⟩
    · have : ∀ (W : LogS), (puts W l).ents = l.foldl putE W.ents := by
        clear hl hr hn hany hpos a b c d e hLv
        induction l with
        | nil => intro W; rfl
        | cons e l ih => intro W; exact ih (W.put e)
      exact this { W with hard := h, segs := grown (begun W.segs) h (decide (h ≠ W.hard)) (l.map entText) }
    · unfold layT
      apply frames_pos
      unfold told
      split
      · simp
      · simpa using hn
/-- Any save: an error, and nothing is changed; or none, and all stays as it should. -/
theorem save_any {W : LogS} {D : DiskS} {n : Nat} (hW : Live W D n) (h : Hrd) (hh : h.In) (l : List Ent) (hl : ∀ e ∈ l, e.In ∧ goodI e.index) :
    Live (W.save D h l).2.1 (W.save D h l).2.2 (n + l.length) ∧ (W.save D h l).2.2.most = D.most := by
  have hW' : Live W D (n + l.length) := { hW with len := by have := hW.len; omega }
  by_cases h1 : h.term < 0 ∨ h.vote < 0 ∨ (l.any fun e => !e.right) = true
  · unfold LogS.save; rw [if_pos h1]; exact ⟨hW', rfl⟩
  by_cases h2 : l = [] ∧ h = W.hard
  · unfold LogS.save; rw [if_neg h1, if_pos h2]; exact ⟨hW', rfl⟩
  simp only [not_or] at h1
  have hr : ∀ e ∈ l, e.right = true := by
    have := h1.2.2
    rw [Bool.not_eq_true, List.any_eq_false] at this
    intro e he
    have := this e he
    simpa using this
  by_cases hn : l = []
  · subst hn
    unfold LogS.save
    rw [if_neg (by simp; omega), if_neg h2]
    rcases lay_live hW.sd (begun_how W.segs) h (decide (h ≠ W.hard)) (List.map entText []) with ⟨a, b, c, cf⟩ | ⟨a, b, c, d, e⟩
    · rw [a, b, c, if_pos (by decide)]
      have : (if more W.segs then there D W.segs (begun W.segs) else begun W.segs) = W.segs := by
        unfold begun
        split
        · rename_i hm; exact there_new hW.sd (by have := hm.2; omega)
        · rfl
      rw [this]
      exact ⟨hW', rfl⟩
    · rw [a, if_neg (by decide), b]
      exact ⟨{ sd := c, rise := hW.rise, good := hW.good, len := hW.len, hin := hh, h0 := ⟨by show 0 ≤ h.term; omega, by show 0 ≤ h.vote; omega⟩ }, e⟩
  · rcases save_live hW h hh ⟨by omega, by omega⟩ l hl hr hn with ⟨a, b, _⟩ | ⟨a, b, c, d, e, _, f⟩
    · rw [b]; exact ⟨hW', rfl⟩
    · exact ⟨b, f⟩
theorem reset_any {W : LogS} {D : DiskS} {n : Nat} (hW : Live W D n) : Live (W.reset D).2.1 (W.reset D).2.2 n ∧ (W.reset D).2.2.most = D.most := by
  unfold LogS.reset
  rcases lay_live hW.sd (.inl rfl) W.hard false [resetText] with ⟨a, b, c, cf⟩ | ⟨a, b, c, d, e⟩
  · rw [a, b, c, if_pos (by decide)]; exact ⟨hW, rfl⟩
  · rw [a, if_neg (by decide), b]
    exact ⟨{ sd := c, rise := { up := (fun i hi => absurd hi (by simp)), in_ := (fun x hx => by cases hx), pos := (fun x hx => by cases hx) }, good := (fun x hx => by cases hx), len := Nat.zero_le _, hin := hW.hin, h0 := hW.h0 }, e⟩
end Go.Proofs.YtaeefjcbmkiiaaaGreatDoor
/- The log: its segments' names; is one wrong among entries; is a name among some; the segments that are there. -/
namespace Go.Proofs.YtaeefjcbmkiiaaaGreatDoor
open Go Sl
attribute [local irreducible] J JR JS RO CR Arr Sat Tr sat blk
set_option linter.unusedVariables false
set_option maxHeartbeats 400000
set_option maxRecDepth 4000
theorem segGetD_mem {S : List Seg} {i : Nat} (h : i < S.length) : S.getD i .none ∈ S := by
  rw [List.getD_eq_getElem?_getD, List.getElem?_eq_getElem h]; exact List.getElem_mem h
theorem segments_tr (w d : Nat) (h : Hrd) (ev sv : Value) (S : List Seg) (hS : ∀ s ∈ S, 0 ≤ s.number ∧ s.number < 100) (hl : S.length ≤ 1000) : Tr Tryz.prog 16 [.pointer (some ⟨w, 0, none⟩)] [blk w (lcell d h ev sv), sl 94 segE sv S]
    fun v Γ => Γ = [sl 9 strE v (S.map segFile), blk w (lcell d h ev sv), sl 94 segE sv S] := by
  refine Tr_of_J Tryz.func16 follows rfl Tryz.ntmps16 (by simp) fun B F => ?_
  repeat' (first | refine mv ?_ | refine asn ?_ | refine jn ?_ | refine nl ?_ | refine ld rfl ?_ | refine nc ?_ | refine f0 ?_ | refine sq ?_ | refine rg ?_ | refine lnb ?_ | refine lls rfl ?_ | refine ad ?_ | refine lss ?_ | refine kp ?_ | refine ct ?_ | refine cf ?_ | (refine cd (fun hc => ?_) (fun hc => ?_) <;> try (exfalso; omega)) | (refine cn (fun hc => ?_) (fun hc => ?_) <;> try (exfalso; omega)) | refine bl ?_ | refine ib ?_ | refine xt ?_ | refine al (fun b_ => ?_) | refine sr rfl ?_ | refine la rfl ?_ | refine ixa rfl rfl ?_ | refine fe ?_ | refine lde rfl ?_ | refine lae rfl ?_ | refine fa ?_ | refine cc ?_ | refine af_ ?_ | refine aw ?_ | refine cb (fun hc => ?_) (fun hc => ?_) | fail)
  refine J_sat (Γ' := sl 9 strE (.slice none 0 0) [] :: _) ?_ fun w hS => sl_nil hS
  refine lp (α := Nat × Int × Value × List Nm) (fun y => [(3, y.2.2.1), (9, sv), (10, .int .i64 S.length), (11, .int .i64 y.2.1)]) (fun y => [sl 9 strE y.2.2.1 y.2.2.2, blk w (lcell d h ev sv), sl 94 segE sv S]) (fun y => y.2.1 = (y.1 : Int) ∧ y.1 ≤ S.length ∧ y.2.2.2 = (S.take y.1).map segFile) (fun y => S.length - y.1) (0, 0, .slice none 0 0, []) ?_ ⟨rfl, Nat.zero_le _, rfl⟩
  rintro ⟨i, n, v, X⟩ ⟨hn, hi, hX⟩ again
  dsimp only at hn hi hX again ⊢
  subst hn
  have hXl : X.length ≤ 1000 := by rw [hX, List.length_map, List.length_take]; omega
  repeat' (first | (refine cl (segName_tr (S.getD i .none) (hS _ (segGetD_mem (by omega))).1 (hS _ (segGetD_mem (by omega))).2) ?_; rintro r Γ' ⟨rfl, rfl⟩; refine n0 ?_) | refine bsl (e := strE) (X := [segFile (S.getD i .none)]) (fun v2 => ?_) (.cona rfl rfl .nil) | refine apo rfl rfl (fun v3 => ?_) (by simp; omega) (by simp; omega) | refine mv ?_ | refine asn ?_ | refine jn ?_ | refine nl ?_ | refine ld rfl ?_ | refine nc ?_ | refine f0 ?_ | refine sq ?_ | refine rg ?_ | refine lnb ?_ | refine lls rfl ?_ | refine ad ?_ | refine lss ?_ | refine kp ?_ | refine ct ?_ | refine cf ?_ | (refine cd (fun hc => ?_) (fun hc => ?_) <;> try (exfalso; omega)) | (refine cn (fun hc => ?_) (fun hc => ?_) <;> try (exfalso; omega)) | refine bl ?_ | refine ib ?_ | refine xt ?_ | refine al (fun b_ => ?_) | refine sr rfl ?_ | refine la rfl ?_ | refine ixa rfl rfl ?_ | refine fe ?_ | refine lde rfl ?_ | refine lae rfl ?_ | refine fa ?_ | refine cc ?_ | refine af_ ?_ | refine aw ?_ | refine cb (fun hc => ?_) (fun hc => ?_) | fail)
  · have hi' : i < S.length := by omega
    exact ag (again (i + 1, (i : Int) + 1, v3, X ++ [segFile (S.getD i .none)]) ⟨by dsimp only; omega, hi', by dsimp only; rw [hX, List.take_succ_eq_append_getElem hi', List.map_append, List.getD_eq_getElem?_getD, List.getElem?_eq_getElem hi']; rfl⟩ (by dsimp only; omega))
  · have hil : i = S.length := by omega
    rw [hil, List.take_length] at hX
    subst hX
    refine rt ?_
    exact ⟨_, rfl, _, by repeat constructor⟩
theorem wrong_tr (e : Ent) : Tr Tryz.prog 56 [entV e] [] fun v Γ => v = .bool (!e.right) ∧ Γ = [] := by
  refine Tr_of_J Tryz.func56 follows rfl Tryz.ntmps56 (by simp) fun B F => ?_
  repeat' (first | (refine cl (right_tr e) ?_; rintro r Γ' ⟨rfl, rfl⟩; refine n0 ?_) | refine asn ?_ | refine jn ?_ | refine nl ?_ | refine ld rfl ?_ | refine sq ?_ | refine rg ?_ | refine nt ?_ | refine kp ?_ | refine ct ?_ | refine cf ?_ | (refine cd (fun hc => ?_) (fun hc => ?_) <;> try (exfalso; omega)) | (refine cn (fun hc => ?_) (fun hc => ?_) <;> try (exfalso; omega)) | refine bl ?_ | refine ib ?_ | refine xt ?_ | refine bx (fun b_ => ?_) | refine la rfl ?_ | refine lde rfl ?_ | refine lae rfl ?_ | refine af_ ?_ | refine cb (fun hc => ?_) (fun hc => ?_) | fail)
  refine rt ?_
  exact ⟨_, ⟨rfl, rfl⟩, _, by repeat constructor⟩
theorem indexFunc_tr (lv : Value) (L : List Ent) (hl : L.length ≤ 1000000) : Tr Tryz.prog 97 [lv, .func (.func 56) #[] #[]] [sl 70 entE lv L]
    fun v Γ => (∃ n : Int, v = .int .i64 n ∧ (0 ≤ n ↔ (L.any fun e => !e.right) = true)) ∧ Γ = [sl 70 entE lv L] := by
  refine Tr_of_J Tryz.func97 follows rfl Tryz.ntmps97 (by simp) fun B F => ?_
  repeat' (first | refine mv ?_ | refine asn ?_ | refine jn ?_ | refine nl ?_ | refine ld rfl ?_ | refine sq ?_ | refine rg ?_ | refine lnb ?_ | refine lls rfl ?_ | refine ad ?_ | refine lss ?_ | refine kp ?_ | refine ct ?_ | refine cf ?_ | (refine cd (fun hc => ?_) (fun hc => ?_) <;> try (exfalso; omega)) | (refine cn (fun hc => ?_) (fun hc => ?_) <;> try (exfalso; omega)) | refine bl ?_ | refine ib ?_ | refine xt ?_ | refine la rfl ?_ | refine ixa rfl rfl ?_ | refine lde rfl ?_ | refine lae rfl ?_ | refine cc ?_ | refine af_ ?_ | refine aw ?_ | refine cb (fun hc => ?_) (fun hc => ?_) | fail)
  refine lp (α := Nat × Int) (fun y => [(0, lv), (1, .func (.func 56) #[] #[]), (7, .int .i64 L.length), (8, .int .i64 y.2)]) (fun y => [sl 70 entE lv L]) (fun y => y.2 = (y.1 : Int) ∧ y.1 ≤ L.length ∧ ∀ e ∈ L.take y.1, e.right = true) (fun y => L.length - y.1) (0, 0) ?_ ⟨rfl, Nat.zero_le _, fun e he => by simp at he⟩
  rintro ⟨i, n⟩ ⟨hn, hi, hr⟩ again
  dsimp only at hn hi hr again ⊢
  subst hn
  repeat' (first | (refine cl3 rfl (wrong_tr (L.getD i .none)) ?_; rintro r Γ' ⟨rfl, rfl⟩; refine n0 ?_) | refine mv ?_ | refine asn ?_ | refine jn ?_ | refine nl ?_ | refine ld rfl ?_ | refine sq ?_ | refine rg ?_ | refine lnb ?_ | refine lls rfl ?_ | refine ad ?_ | refine lss ?_ | refine kp ?_ | refine ct ?_ | refine cf ?_ | (refine cd (fun hc => ?_) (fun hc => ?_) <;> try (exfalso; omega)) | (refine cn (fun hc => ?_) (fun hc => ?_) <;> try (exfalso; omega)) | refine bl ?_ | refine ib ?_ | refine xt ?_ | refine la rfl ?_ | refine ixa rfl rfl ?_ | refine lde rfl ?_ | refine lae rfl ?_ | refine cc ?_ | refine af_ ?_ | refine aw ?_ | refine cb (fun hc => ?_) (fun hc => ?_) | fail)
  · have hi' : i < L.length := by omega
    refine rt ?_
    refine ⟨_, ⟨⟨i, rfl, ?_⟩, rfl⟩, _, by repeat constructor⟩
    constructor
    · intro _
      rw [List.any_eq_true]
      exact ⟨L.getD i .none, by rw [getD_of hi']; exact List.getElem_mem hi', by assumption⟩
    · intro _; omega
  · have hi' : i < L.length := by omega
    have hg : (L.getD i .none).right = true := by cases hh : (L.getD i .none).right <;> simp_all
    exact ag (again (i + 1, (i : Int) + 1) ⟨by dsimp only; omega, hi', by
      intro e he
      dsimp only at he
      rw [List.take_succ_eq_append_getElem hi'] at he
      rcases List.mem_append.1 he with he | he
      · exact hr e he
      · rw [List.mem_singleton.1 he, ← getD_of hi']; exact hg⟩ (by dsimp only; omega))
  · have hil : i = L.length := by omega
    rw [hil, List.take_length] at hr
    refine rt ?_
    refine ⟨_, ⟨⟨-1, rfl, ?_⟩, rfl⟩, _, by repeat constructor⟩
    constructor
    · intro h; omega
    · intro h
      rw [List.any_eq_true] at h
      obtain ⟨e, he, h⟩ := h
      rw [hr e he] at h; cases h
theorem containsFunc_tr (lv : Value) (L : List Ent) (hl : L.length ≤ 1000000) : Tr Tryz.prog 55 [lv, .func (.func 56) #[] #[]] [sl 70 entE lv L]
    fun v Γ => v = .bool (L.any fun e => !e.right) ∧ Γ = [sl 70 entE lv L] := by
  refine Tr_of_J Tryz.func55 follows rfl Tryz.ntmps55 (by simp) fun B F => ?_
  repeat' (first | (refine cl (indexFunc_tr lv L hl) ?_; rintro r Γ' ⟨⟨n, rfl, hn⟩, rfl⟩; refine n1 ?_) | refine mv ?_ | refine asn ?_ | refine jn ?_ | refine nl ?_ | refine sq ?_ | refine rg ?_ | refine geq ?_ | refine kp ?_ | refine ct ?_ | refine cf ?_ | (refine cd (fun hc => ?_) (fun hc => ?_) <;> try (exfalso; omega)) | (refine cn (fun hc => ?_) (fun hc => ?_) <;> try (exfalso; omega)) | refine bl ?_ | refine ib ?_ | refine xt ?_ | refine af_ ?_ | refine cb (fun hc => ?_) (fun hc => ?_) | fail)
  refine rt ?_
  refine ⟨_, ⟨?_, rfl⟩, _, by repeat constructor⟩
  show Value.bool _ = _
  congr 1
  rw [Bool.eq_iff_iff, decide_eq_true_iff]; exact hn
theorem index_tr (lv : Value) (L : List Nm) (x : Nm) (hl : L.length ≤ 1000000) : Tr Tryz.prog 150 [lv, vs x] [sl 9 strE lv L]
    fun v Γ => (∃ n : Int, v = .int .i64 n ∧ (0 ≤ n ↔ x ∈ L)) ∧ Γ = [sl 9 strE lv L] := by
  refine Tr_of_J Tryz.func150 follows rfl Tryz.ntmps150 (by simp) fun B F => ?_
  repeat' (first | refine mv ?_ | refine asn ?_ | refine jn ?_ | refine nl ?_ | refine ld rfl ?_ | refine sq ?_ | refine rg ?_ | refine lnb ?_ | refine lls rfl ?_ | refine ad ?_ | refine lss ?_ | refine kp ?_ | refine ct ?_ | refine cf ?_ | (refine cd (fun hc => ?_) (fun hc => ?_) <;> try (exfalso; omega)) | (refine cn (fun hc => ?_) (fun hc => ?_) <;> try (exfalso; omega)) | refine bl ?_ | refine ib ?_ | refine xt ?_ | refine la rfl ?_ | refine ixa rfl rfl ?_ | refine lde rfl ?_ | refine lae rfl ?_ | refine seq ?_ | refine cc ?_ | refine af_ ?_ | refine aw ?_ | refine cb (fun hc => ?_) (fun hc => ?_) | fail)
  refine lp (α := Nat × Int) (fun y => [(0, lv), (1, vs x), (7, .int .i64 L.length), (8, .int .i64 y.2)]) (fun y => [sl 9 strE lv L]) (fun y => y.2 = (y.1 : Int) ∧ y.1 ≤ L.length ∧ x ∉ L.take y.1) (fun y => L.length - y.1) (0, 0) ?_ ⟨rfl, Nat.zero_le _, by simp⟩
  rintro ⟨i, n⟩ ⟨hn, hi, hr⟩ again
  dsimp only at hn hi hr again ⊢
  subst hn
  repeat' (first | refine mv ?_ | refine asn ?_ | refine jn ?_ | refine nl ?_ | refine ld rfl ?_ | refine sq ?_ | refine rg ?_ | refine lnb ?_ | refine lls rfl ?_ | refine ad ?_ | refine lss ?_ | refine kp ?_ | refine ct ?_ | refine cf ?_ | (refine cd (fun hc => ?_) (fun hc => ?_) <;> try (exfalso; omega)) | (refine cn (fun hc => ?_) (fun hc => ?_) <;> try (exfalso; omega)) | refine bl ?_ | refine ib ?_ | refine xt ?_ | refine la rfl ?_ | refine ixa rfl rfl ?_ | refine lde rfl ?_ | refine lae rfl ?_ | refine seq ?_ | refine cc ?_ | refine af_ ?_ | refine aw ?_ | refine cb (fun hc => ?_) (fun hc => ?_) | fail)
  · have hi' : i < L.length := by omega
    have hx : x = L.getD i [] := by assumption
    refine rt ?_
    refine ⟨_, ⟨⟨i, rfl, ?_⟩, rfl⟩, _, by repeat constructor⟩
    constructor
    · intro _; rw [hx, List.getD_eq_getElem?_getD, List.getElem?_eq_getElem hi']; exact List.getElem_mem hi'
    · intro _; omega
  · have hi' : i < L.length := by omega
    have hx : ¬ x = L.getD i [] := by assumption
    exact ag (again (i + 1, (i : Int) + 1) ⟨by dsimp only; omega, hi', by
      intro he
      dsimp only at he
      rw [List.take_succ_eq_append_getElem hi'] at he
      rcases List.mem_append.1 he with he | he
      · exact hr he
      · apply hx; rw [List.getD_eq_getElem?_getD, List.getElem?_eq_getElem hi']; exact List.mem_singleton.1 he⟩ (by dsimp only; omega))
  · have hil : i = L.length := by omega
    rw [hil, List.take_length] at hr
    refine rt ?_
    refine ⟨_, ⟨⟨-1, rfl, ?_⟩, rfl⟩, _, by repeat constructor⟩
    constructor
    · intro h; omega
    · intro h; exact absurd h hr
theorem contains_tr (lv : Value) (L : List Nm) (x : Nm) (hl : L.length ≤ 1000000) : Tr Tryz.prog 99 [lv, vs x] [sl 9 strE lv L]
    fun v Γ => v = .bool (decide (x ∈ L)) ∧ Γ = [sl 9 strE lv L] := by
  refine Tr_of_J Tryz.func99 follows rfl Tryz.ntmps99 (by simp) fun B F => ?_
  repeat' (first | (refine cl (index_tr lv L x hl) ?_; rintro r Γ' ⟨⟨n, rfl, hn⟩, rfl⟩; refine n1 ?_) | refine mv ?_ | refine asn ?_ | refine jn ?_ | refine nl ?_ | refine sq ?_ | refine rg ?_ | refine geq ?_ | refine kp ?_ | refine ct ?_ | refine cf ?_ | (refine cd (fun hc => ?_) (fun hc => ?_) <;> try (exfalso; omega)) | (refine cn (fun hc => ?_) (fun hc => ?_) <;> try (exfalso; omega)) | refine bl ?_ | refine ib ?_ | refine xt ?_ | refine af_ ?_ | refine cb (fun hc => ?_) (fun hc => ?_) | fail)
  refine rt ?_
  refine ⟨_, ⟨?_, rfl⟩, _, by repeat constructor⟩
  show Value.bool _ = _
  congr 1
  rw [Bool.eq_iff_iff, decide_eq_true_iff, decide_eq_true_iff]; exact hn
theorem still_tr (w d m : Nat) (h : Hrd) (ev sv uv : Value) (S : List Seg) (D : DiskS) (hD : D.Ok) (hS : S ≠ []) (hSl : S.length ≤ 100000) (hn0 : 0 ≤ (lastS S).number) (hn1 : (lastS S).number < 100) :
    Tr Tryz.prog 59 [.pointer (some ⟨w, 0, none⟩), uv] [blk w (lcell d h ev sv), sl 94 segE sv S, blk d (dcell m D), mp fmap m D.files]
      fun v Γ => v = (if segFile (lastS S) ∈ D.files.map (·.1) then sv else uv) ∧ Γ = [blk w (lcell d h ev sv), sl 94 segE sv S, blk d (dcell m D), mp fmap m D.files] := by
  have hS0 : 0 < S.length := List.length_pos_iff.2 hS
  have hlen : (sortN (D.files.map (·.1))).length ≤ 1000000 := by
    have := hD.ct
    unfold sortN; rw [List.length_mergeSort, List.length_map]; omega
  refine Tr_of_J Tryz.func59 follows rfl Tryz.ntmps59 (by simp) fun B F => ?_
  repeat' (first | refine JS_cons rfl rfl (RO_lae rfl (by omega) (by repeat constructor)) ?_ | (refine cl (list_tr d m D hD) ?_; rintro r Γ' rfl; refine n3 ?_) | (refine cl (segName_tr (lastS S) hn0 hn1) ?_; rintro r2 Γ' ⟨rfl, rfl⟩; refine n0 ?_) | (refine cl (contains_tr _ (sortN (D.files.map (·.1))) (segFile (lastS S)) hlen) ?_; rintro r3 Γ' ⟨rfl, rfl⟩; refine n1 ?_) | refine mv ?_ | refine asn ?_ | refine jn ?_ | refine nl ?_ | refine ld rfl ?_ | refine nc ?_ | refine f0 ?_ | refine sq ?_ | refine rg ?_ | refine lnb ?_ | refine lls rfl ?_ | refine sb ?_ | refine kp ?_ | refine ct ?_ | refine cf ?_ | (refine cd (fun hc => ?_) (fun hc => ?_) <;> try (exfalso; omega)) | (refine cn (fun hc => ?_) (fun hc => ?_) <;> try (exfalso; omega)) | refine bl ?_ | refine ib ?_ | refine xt ?_ | refine la rfl ?_ | refine ixa rfl rfl ?_ | refine fe ?_ | refine lde rfl ?_ | refine lae rfl ?_ | refine fa ?_ | refine af_ ?_ | refine sw ?_ | refine cb (fun hc => ?_) (fun hc => ?_) | refine J_draw (id := 1) [(0, true, []), (1, true, []), (2, true, []), (3, true, []), (5, true, []), (6, true, []), (7, true, []), (8, true, []), (9, true, []), (10, true, []), (11, true, []), (12, true, []), (13, true, []), (14, true, []), (15, true, []), (16, true, []), (4, false, [5, 6, 7, 8, 9, 10, 11, 12, 13, 14, 15, 16]), (17, false, []), (18, false, [])] (by kernel_rfl) ?_ | refine JS_cons rfl rfl (RO_move rfl) ?_ | refine JS_cons rfl rfl (RO_nilCheck rfl) ?_ | refine JS_cons rfl rfl (RO_fieldAddr0 rfl) ?_ | refine JS_cons rfl rfl (RO_load rfl (by rfl)) ?_ | refine JS_off rfl ?_ | refine JS_cons rfl rfl (RO_fieldAddr rfl) ?_ | refine JS_cons rfl rfl (RO_lnb rfl) ?_ | refine JS_cons rfl rfl (RO_lls rfl) ?_ | refine JS_cons rfl rfl (RO_sub_in rfl rfl (by omega)) ?_ | refine JS_cons rfl rfl (RO_ixa rfl rfl (by omega)) ?_ | refine JS_cons rfl rfl (RO_fe rfl) ?_ | refine JS_cons rfl rfl (RO_lde rfl (by omega) rfl) ?_ | refine JS_offu rfl ?_ | refine JS_cons rfl rfl (RO_lae rfl (by omega) (by repeat constructor)) ?_ | refine JS_cons rfl rfl (RO_loadAgg rfl (by repeat constructor)) ?_ | fail)
  · have hc : segFile (lastS S) ∈ D.files.map (·.1) := by
      have : segFile (lastS S) ∈ sortN (D.files.map (·.1)) := by assumption
      exact List.mem_mergeSort.1 this
    refine rt ?_
    exact ⟨_, ⟨by rw [if_pos hc]; rfl, rfl⟩, _, by repeat constructor⟩
  · have hc : ¬ segFile (lastS S) ∈ D.files.map (·.1) := by
      have : ¬ segFile (lastS S) ∈ sortN (D.files.map (·.1)) := by assumption
      exact fun h => this (List.mem_mergeSort.2 h)
    refine rt ?_
    exact ⟨_, ⟨by rw [if_neg hc]; rfl, rfl⟩, _, by repeat constructor⟩
end Go.Proofs.YtaeefjcbmkiiaaaGreatDoor
/- The log: all entries forgotten; a log opened on an empty disk. -/
namespace Go.Proofs.YtaeefjcbmkiiaaaGreatDoor
open Go Sl
attribute [local irreducible] J JR JS RO CR Arr Sat Tr sat blk
set_option linter.unusedVariables false
set_option maxHeartbeats 400000
set_option maxRecDepth 4000
theorem resetText_len : resetText.length ≤ 10 := by
  have h1 := encInt_length (n := 3) (by decide) (by decide)
  simp only [resetText, encInts, List.flatMap_cons, List.flatMap_nil, List.append_nil]
  omega
theorem reset_tr (w d m : Nat) (W : LogS) (ev sv : Value) (D : DiskS) (hD : D.Ok) (hh : W.hard.In) (hS : W.segs ≠ []) (hSl : W.segs.length ≤ 100000) (hn0 : 0 ≤ (lastS W.segs).number) (hn1 : (lastS W.segs).number < 100) (hz0 : 0 ≤ (lastS W.segs).size) (hz1 : (lastS W.segs).size ≤ 100000000) :
    Tr Tryz.prog 34 [.pointer (some ⟨w, 0, none⟩)] [blk w (lcell d W.hard ev sv), sl 70 entE ev W.ents, sl 94 segE sv W.segs, blk d (dcell m D), mp fmap m D.files]
      fun v Γ => ∃ ev', v = .int .i64 (W.reset D).1 ∧ Γ = [blk w (lcell d (W.reset D).2.1.hard ev' sv), sl 70 entE ev' (W.reset D).2.1.ents, sl 94 segE sv (W.reset D).2.1.segs, blk d (dcell m (W.reset D).2.2), mp fmap m (W.reset D).2.2.files] := by
  have hps : ∀ p ∈ [resetText], p.length ≤ 65536 := fun p hp => by rw [List.mem_singleton.1 hp]; have := resetText_len; omega
  refine Tr_of_J Tryz.func34 follows rfl Tryz.ntmps34 (by simp) fun B F => ?_
  repeat' (first | refine bsl (e := intE) (X := [3]) (fun v2 => ?_) (.cona rfl rfl .nil) | (refine cl (Int_tr v2 [3] (by simp) (by decide) (by simp)) ?_; rintro r Γ' ⟨rfl, rfl⟩; refine n1 ?_) | refine bsl (e := strE) (X := [resetText]) (fun v3 => ?_) (.cona rfl rfl .nil) | (refine cl (lay_tr w d m W.hard ev sv v3 W.segs D hD W.hard hh false [resetText] hps (by simp) hS hSl hn0 hn1 hz0 hz1 (.inr (by simp))) ?_; rintro r Γ' ⟨rfl, rfl⟩; refine n4 ?_) | refine mv ?_ | refine asn ?_ | refine jn ?_ | refine nl ?_ | refine ld rfl ?_ | refine nc ?_ | refine f0 ?_ | refine sq ?_ | refine rg ?_ | refine neq ?_ | refine kp ?_ | refine ct ?_ | refine cf ?_ | (refine cd (fun hc => ?_) (fun hc => ?_) <;> try (exfalso; omega)) | (refine cn (fun hc => ?_) (fun hc => ?_) <;> try (exfalso; omega)) | refine bl ?_ | refine ib ?_ | refine xt ?_ | refine sr rfl ?_ | refine la rfl ?_ | refine fe ?_ | refine lde rfl ?_ | refine lae rfl ?_ | refine fa ?_ | refine sne ?_ | refine af_ ?_ | refine ane ?_ | refine cb (fun hc => ?_) (fun hc => ?_) | refine J_draw (id := 1) [(0, true, []), (1, true, []), (2, true, []), (3, true, []), (4, true, []), (5, false, [0, 1, 2, 3, 4]), (6, false, [0, 1, 2, 3, 4]), (7, false, [0, 1, 2, 3, 4]), (8, false, []), (9, true, [])] (by kernel_rfl) ?_ | refine JS_cons rfl rfl (RO_move rfl) ?_ | refine JS_cons rfl rfl (RO_nilCheck rfl) ?_ | refine JS_cons rfl rfl (RO_fieldAddr0 rfl) ?_ | refine JS_cons rfl rfl (RO_load rfl (by rfl)) ?_ | refine JS_off rfl ?_ | refine JS_cons rfl rfl (RO_fieldAddr rfl) ?_ | refine JS_cons rfl rfl (RO_fe rfl) ?_ | refine JS_cons rfl rfl (RO_lde rfl (by omega) rfl) ?_ | refine JS_offu rfl ?_ | refine JS_cons rfl rfl (RO_lae rfl (by omega) (by repeat constructor)) ?_ | refine JS_cons rfl rfl (RO_loadAgg rfl (by repeat constructor)) ?_ | fail)
  · have hc1 : layE W.segs D W.hard false [resetText] ≠ 0 := by assumption
    have e : W.reset D = (layE W.segs D W.hard false [resetText], { W with segs := layS W.segs D W.hard false [resetText] }, layD W.segs D W.hard false [resetText]) := if_pos hc1
    rw [e]
    refine rt ?_
    exact ⟨_, ⟨_, rfl, rfl⟩, _, by repeat constructor⟩
  · have hc1 : ¬ layE W.segs D W.hard false [resetText] ≠ 0 := by
      have : layE W.segs D W.hard false [resetText] = 0 := by assumption
      simp [this]
    have e : W.reset D = (0, { W with segs := layS W.segs D W.hard false [resetText], ents := [] }, layD W.segs D W.hard false [resetText]) := if_neg hc1
    rw [e]
    refine J_sat (Γ' := sl 70 entE (.slice none 0 0) [] :: _) ?_ fun w hS => sl_nil hS
    refine rt ?_
    exact ⟨_, ⟨_, rfl, rfl⟩, _, by repeat constructor⟩
theorem sort0_tr : Tr Tryz.prog 49 [.slice none 0 0] [] fun r Γ => r = .tuple #[] ∧ Γ = [] :=
  Tr.of_same fun w => Any.slices_Sort_int_none Tryz.lays189 none 0 w
/-- Open, where no file lies: the first segment is laid down. -/
theorem open0_tr (d m : Nat) (D : DiskS) (hD : D.Ok) (h0 : D.files = []) :
    Tr Tryz.prog 26 [.pointer (some ⟨d, 0, none⟩)] [blk d (dcell m D), mp fmap m D.files]
      fun v Γ => (layE [⟨1, 0, 0⟩] D ⟨0, 0⟩ true [] ≠ 0 ∧ v = .tuple #[.pointer none, .int .i64 (layE [⟨1, 0, 0⟩] D ⟨0, 0⟩ true [])] ∧ Γ = [blk d (dcell m (layD [⟨1, 0, 0⟩] D ⟨0, 0⟩ true [])), mp fmap m (layD [⟨1, 0, 0⟩] D ⟨0, 0⟩ true []).files])
        ∨ (layE [⟨1, 0, 0⟩] D ⟨0, 0⟩ true [] = 0 ∧ ∃ w sv, v = .tuple #[.pointer (some ⟨w, 0, none⟩), .int .i64 0] ∧ Γ = [blk w (lcell d ⟨0, 0⟩ (.slice none 0 0) sv), sl 70 entE (.slice none 0 0) [], sl 94 segE sv (layS [⟨1, 0, 0⟩] D ⟨0, 0⟩ true []), blk d (dcell m (layD [⟨1, 0, 0⟩] D ⟨0, 0⟩ true [])), mp fmap m (layD [⟨1, 0, 0⟩] D ⟨0, 0⟩ true []).files]) := by
  have hk : sortN (D.files.map (·.1)) = [] := by rw [h0]; simp [sortN]
  have hh : (⟨0, 0⟩ : Hrd).In := ⟨by decide, by decide⟩
  have hls : lastS [⟨1, 0, 0⟩] = ⟨1, 0, 0⟩ := rfl
  refine Tr_of_J Tryz.func26 follows rfl Tryz.ntmps26 (by simp) fun B F => ?_
  repeat' (first | (refine cl (list_tr d m D hD) ?_; rintro v1 Γ' rfl; rw [hk]; refine n3 ?_) | refine mv ?_ | refine asn ?_ | refine jn ?_ | refine nl ?_ | refine ld rfl ?_ | refine nc ?_ | refine f0 ?_ | refine sq ?_ | refine rg ?_ | refine lnb ?_ | refine lls rfl ?_ | refine ad ?_ | refine sb ?_ | refine lss ?_ | refine eql ?_ | refine neq ?_ | refine gtr ?_ | refine kp ?_ | refine ct ?_ | refine cf ?_ | (refine cd (fun hc => ?_) (fun hc => ?_) <;> try (exfalso; omega)) | (refine cn (fun hc => ?_) (fun hc => ?_) <;> try (exfalso; omega)) | refine bl ?_ | refine ib ?_ | refine xt ?_ | refine bx (fun b_ => ?_) | refine sr rfl ?_ | refine la rfl ?_ | refine ixa rfl rfl ?_ | refine fe ?_ | refine lde rfl ?_ | refine lae rfl ?_ | refine fa ?_ | refine bld ?_ | refine sne ?_ | refine cc ?_ | refine af_ ?_ | refine aw ?_ | refine sw ?_ | refine ane ?_ | refine cb (fun hc => ?_) (fun hc => ?_) | fail)
  refine J_sat (Γ' := sl 9 strE (.slice none 0 0) [] :: _) ?_ fun w hS => sl_nil hS
  refine lp (α := Unit) (fun y => [(0, .pointer (some ⟨d, 0, none⟩)), (4, .pointer (some ⟨b_, 0, none⟩)), (5, .slice none 0 0), (18, .int .i64 0), (19, .int .i64 0)]) (fun y => [sl 9 strE (.slice none 0 0) [], blk b_ (lcell d ⟨0, 0⟩ (.slice none 0 0) (.slice none 0 0)), blk d (dcell m D), mp fmap m D.files]) (fun y => True) (fun y => 0) () ?_ trivial
  rintro _ _ again
  clear again
  repeat' (first | (refine cl sort0_tr ?_; rintro v1 Γ' ⟨rfl, rfl⟩; refine n0 ?_) | refine bsl (e := segE) (X := [⟨1, 0, 0⟩]) (fun v2 => ?_) (.cona rfl rfl .nil) | refine sro rfl rfl ?_ | (refine cl (lay_tr b_ d m ⟨0, 0⟩ (.slice none 0 0) v2 (.slice none 0 0) [⟨1, 0, 0⟩] D hD ⟨0, 0⟩ hh true [] (by simp) (by simp) (by simp) (by simp) (by decide) (by decide) (by decide) (by decide) (.inl (.inl rfl))) ?_; rintro r Γ' ⟨rfl, rfl⟩; refine n4 ?_) | refine mv ?_ | refine asn ?_ | refine jn ?_ | refine nl ?_ | refine ld rfl ?_ | refine nc ?_ | refine f0 ?_ | refine sq ?_ | refine rg ?_ | refine lnb ?_ | refine lls rfl ?_ | refine ad ?_ | refine sb ?_ | refine lss ?_ | refine eql ?_ | refine neq ?_ | refine gtr ?_ | refine kp ?_ | refine ct ?_ | refine cf ?_ | (refine cd (fun hc => ?_) (fun hc => ?_) <;> try (exfalso; omega)) | (refine cn (fun hc => ?_) (fun hc => ?_) <;> try (exfalso; omega)) | refine bl ?_ | refine ib ?_ | refine xt ?_ | refine bx (fun b_ => ?_) | refine sr rfl ?_ | refine la rfl ?_ | refine ixa rfl rfl ?_ | refine fe ?_ | refine lde rfl ?_ | refine lae rfl ?_ | refine fa ?_ | refine bld ?_ | refine sne ?_ | refine cc ?_ | refine af_ ?_ | refine aw ?_ | refine sw ?_ | refine ane ?_ | refine cb (fun hc => ?_) (fun hc => ?_) | fail)
  · refine rt ?_
    exact ⟨_, .inl ⟨by assumption, rfl, rfl⟩, _, by repeat constructor⟩
  · refine J_sat (Γ' := sl 70 entE (.slice none 0 0) [] :: _) ?_ fun w hS => sl_nil hS
    refine rt ?_
    exact ⟨_, .inr ⟨by assumption, _, _, rfl, rfl⟩, _, by repeat constructor⟩
end Go.Proofs.YtaeefjcbmkiiaaaGreatDoor
/- The log: a save: what may not be saved; nothing to be saved; saved. -/
namespace Go.Proofs.YtaeefjcbmkiiaaaGreatDoor
open Go Sl
attribute [local irreducible] J JR JS RO CR Arr Sat Tr sat blk
set_option linter.unusedVariables false
set_option maxHeartbeats 800000
set_option maxRecDepth 4000
theorem save_arg (w d m : Nat) (lv : Value) (W : LogS) (ev sv : Value) (D : DiskS) (h : Hrd) (l : List Ent) (hl : l.length ≤ 100) (hb : h.term < 0 ∨ h.vote < 0 ∨ (l.any fun e => !e.right) = true) :
    Tr Tryz.prog 31 [.pointer (some ⟨w, 0, none⟩), hrdV h, lv] [sl 70 entE lv l, blk w (lcell d W.hard ev sv), sl 70 entE ev W.ents, sl 94 segE sv W.segs, blk d (dcell m D), mp fmap m D.files]
      fun v Γ => v = .int .i64 1 ∧ Γ = [blk w (lcell d W.hard ev sv), sl 70 entE ev W.ents, sl 94 segE sv W.segs, blk d (dcell m D), mp fmap m D.files] := by
  refine Tr_of_J Tryz.func31 follows rfl Tryz.ntmps31 (by simp) fun B F => ?_
  repeat' (first | (refine cl (containsFunc_tr lv l (by omega)) ?_; rintro r Γ' ⟨rfl, rfl⟩; refine n1 ?_) | refine mv ?_ | refine asn ?_ | refine jn ?_ | refine nl ?_ | refine ld rfl ?_ | refine nc ?_ | refine f0 ?_ | refine sq ?_ | refine rg ?_ | refine lnb ?_ | refine lls rfl ?_ | refine ad ?_ | refine sb ?_ | refine lss ?_ | refine eql ?_ | refine neq ?_ | refine gtr ?_ | refine geq ?_ | refine p1 ?_ | refine p0 ?_ | refine sk2 ?_ | refine kp ?_ | refine ct ?_ | refine cf ?_ | (refine cd (fun hc => ?_) (fun hc => ?_) <;> try (exfalso; omega)) | (refine cn (fun hc => ?_) (fun hc => ?_) <;> try (exfalso; omega)) | refine bl ?_ | refine ib ?_ | refine xt ?_ | refine bx (fun b_ => ?_) | refine al (fun b_ => ?_) | refine sr rfl ?_ | refine la rfl ?_ | refine ixa rfl rfl ?_ | refine fe ?_ | refine lde rfl ?_ | refine lae rfl ?_ | refine fa ?_ | refine bld ?_ | refine seq ?_ | refine sne ?_ | refine cc ?_ | refine af_ ?_ | (refine gd (fun hc => ?_) (fun hc => ?_) <;> try (exfalso; omega)) | (refine gn (fun hc => ?_) (fun hc => ?_) <;> try (exfalso; omega)) | refine aw ?_ | refine sw ?_ | refine aeq ?_ | refine ane ?_ | refine cb (fun hc => ?_) (fun hc => ?_) | refine gs (fun hc => ?_) (fun hc => ?_) | refine J_draw (id := 11) [(0, true, []), (1, true, []), (2, true, []), (3, true, []), (4, true, []), (5, true, []), (6, true, []), (7, true, []), (8, true, []), (9, true, []), (10, true, [])] (by kernel_rfl) ?_ | refine J_draw2 (id := 16) [(0, true, []), (1, true, []), (3, true, []), (4, true, []), (5, true, []), (6, true, []), (2, false, [0, 3, 4, 5, 6]), (7, false, [0, 1]), (8, false, [0]), (9, true, []), (10, true, []), (11, false, [])] [(0, true, []), (1, true, []), (3, true, []), (4, true, []), (5, true, []), (6, true, []), (7, false, [0, 1]), (2, false, [0, 3, 4, 5, 6]), (8, false, [0]), (9, true, []), (10, true, []), (11, false, [])] (by kernel_rfl) ?_ ?_ | refine J_draw (id := 17) [(0, true, []), (1, true, []), (2, true, []), (3, true, []), (4, true, []), (5, true, []), (6, true, []), (7, true, []), (8, true, []), (9, false, []), (10, true, [])] (by kernel_rfl) ?_ | refine JS_cons rfl rfl (RO_move rfl) ?_ | refine JS_cons rfl rfl (RO_nilCheck rfl) ?_ | refine JS_cons rfl rfl (RO_fieldAddr0 rfl) ?_ | refine JS_cons rfl rfl (RO_load rfl (by rfl)) ?_ | refine JS_off rfl ?_ | refine JS_cons rfl rfl (RO_fieldAddr rfl) ?_ | refine JS_cons rfl rfl (RO_lnb rfl) ?_ | refine JS_cons rfl rfl (RO_lls rfl) ?_ | refine JS_cons rfl rfl (RO_add_in rfl rfl (by omega)) ?_ | refine JS_cons rfl rfl (RO_sub_in rfl rfl (by omega)) ?_ | refine JS_cons rfl rfl (RO_ixa rfl rfl (by omega)) ?_ | refine JS_cons rfl rfl (RO_fe rfl) ?_ | refine JS_cons rfl rfl (RO_lde rfl (by omega) rfl) ?_ | refine JS_offu rfl ?_ | refine JS_cons rfl rfl (RO_cc rfl rfl (by omega)) ?_ | refine JS_cons rfl rfl (RO_bld rfl (by (repeat (first | exact FillS.nil | (apply FillS.cons; rfl; rfl; constructor; rfl; (focus repeat constructor)))))) ?_ | refine JS_cons rfl rfl (RO_lae rfl (by omega) (by repeat constructor)) ?_ | refine JS_cons rfl rfl (RO_loadAgg rfl (by repeat constructor)) ?_ | fail)
  · refine rt ?_
    exact ⟨_, ⟨rfl, rfl⟩, _, by repeat constructor⟩
  · refine rt ?_
    exact ⟨_, ⟨rfl, rfl⟩, _, by repeat constructor⟩
  · refine rt ?_
    exact ⟨_, ⟨rfl, rfl⟩, _, by repeat constructor⟩
  · exfalso
    rcases hb with hb | hb | hb
    · exact absurd hb (by assumption)
    · exact absurd hb (by assumption)
    · have h3 : (l.any fun e => !e.right) = false := by assumption
      rw [hb] at h3; cases h3
theorem containsFunc0_tr (lv : Value) (L : List Ent) (hl : L.length ≤ 1000000) (hany : (L.any fun e => !e.right) = false) : Tr Tryz.prog 55 [lv, .func (.func 56) #[] #[]] [sl 70 entE lv L]
    fun v Γ => v = .bool false ∧ Γ = [sl 70 entE lv L] := by
  have := containsFunc_tr lv L hl
  rwa [hany] at this
theorem entText_len {e : Ent} (he : e.In) (hd : e.data.length ≤ 60000) : (entText e).length ≤ 50 + e.data.length := by
  have h2 := (encInt_length (n := 2) (by decide) (by decide)).2
  have h3 := (encInt_length he.i.1 he.i.2).2
  have h4 := (encInt_length he.t.1 he.t.2).2
  have h5 := (encInt_length he.k.1 he.k.2).2
  have h6 := (encInt_length (n := e.data.length) (by omega) (by omega)).2
  simp only [entText, encInts, encTexts, encText, List.flatMap_cons, List.flatMap_nil, List.length_append, List.append_nil]
  omega
/-! ### saved -/
theorem eqH (h g : Hrd) : eqCells [.int .i64 h.term, .int .i64 h.vote] [.int .i64 g.term, .int .i64 g.vote] = decide (h = g) := by
  obtain ⟨a, b⟩ := h
  obtain ⟨c, d⟩ := g
  simp only [eqCells, eqCell, Hrd.mk.injEq, Bool.and_true]
  by_cases h1 : a = c <;> by_cases h2 : b = d <;> simp [h1, h2]
theorem puts_take {V : LogS} {l : List Ent} {i : Nat} (hi : i < l.length) : puts V (l.take (i + 1)) = (puts V (l.take i)).put (l.getD i .none) := by
  unfold puts
  rw [List.take_succ_eq_append_getElem hi, List.foldl_append, getD_of hi]; rfl
theorem lastS_num {S : List Seg} (hS : S ≠ []) {i : Int} : (lastS (setTop S i)).number = (lastS S).number := by unfold setTop; rw [lastS_setLast hS]
theorem layS_len (S : List Seg) (D : DiskS) (h : Hrd) (tell : Bool) (ps : List (List UInt8)) : (layS S D h tell ps).length = S.length := by
  unfold layS; split
  · rfl
  · unfold grown; rw [setLast_length]
theorem layS_num {S : List Seg} (hS : S ≠ []) (D : DiskS) (h : Hrd) (tell : Bool) (ps : List (List UInt8)) : (lastS (layS S D h tell ps)).number = (lastS S).number := by
  unfold layS; split
  · rfl
  · unfold grown; rw [lastS_setLast hS]
theorem layD_ok {D : DiskS} (hD : D.Ok) (S : List Seg) (h : Hrd) (tell : Bool) (ps : List (List UInt8)) : (layD S D h tell ps).Ok := by
  unfold layD layA; split
  · exact hD.append _ _
  · exact (hD.append _ _).sync _
theorem ne_of_len {α : Type} {a b : List α} (h : a.length = b.length) (hb : b ≠ []) : a ≠ [] := by
  rintro rfl; exact hb (List.length_eq_zero_iff.1 h.symm)
theorem setTop_len (S : List Seg) (i : Int) : (setTop S i).length = S.length := by unfold setTop; rw [setLast_length]
theorem next_last (S : List Seg) : lastS (next S) = ⟨(lastS S).number + 1, 0, 0⟩ := lastS_end _ _
theorem ite_or {α : Type} {p : Prop} [Decidable p] {r a b : α} (h : r = if p then a else b) : (p ∧ r = a) ∨ (¬ p ∧ r = b) := by
  by_cases hp : p
  · exact .inl ⟨hp, by rw [h, if_pos hp]⟩
  · exact .inr ⟨hp, by rw [h, if_neg hp]⟩
theorem getD_last {α : Type} (X : List α) (t z : α) : (X ++ [t]).getD X.length z = t := by simp
/-- What holds while entries are put. -/
structure PutOk (V0 V : LogS) (i : Nat) : Prop where
  rise : Rise V.ents
  len : V.ents.length ≤ V0.ents.length + i
  slen : V.segs.length = V0.segs.length
  hd : V.hard = V0.hard
theorem PutOk.put {V0 V : LogS} {i : Nat} (h : PutOk V0 V i) {e : Ent} (he : e.In) (h0 : 0 < e.index) : PutOk V0 (V.put e) (i + 1) where
  rise := putE_rise h.rise he h0
  len := Nat.le_trans (putE_len _ _) (by have := h.len; omega)
  slen := (setTop_len _ _).trans h.slen
  hd := h.hd
theorem save_same (w d m : Nat) (lv : Value) (W : LogS) (ev sv : Value) (D : DiskS) (hD : D.Ok) (h : Hrd) (hh : h.In) (l : List Ent) (hl : l.length ≤ 100) (hli : ∀ e ∈ l, e.In ∧ e.data.length ≤ 60000) (h0 : 0 ≤ h.term) (h1 : 0 ≤ h.vote) (hany : (l.any fun e => !e.right) = false)
    (hS : W.segs ≠ []) (hSl : W.segs.length ≤ 1000) (hn0 : 0 ≤ (lastS W.segs).number) (hn1 : (lastS W.segs).number < 99) (hz0 : 0 ≤ (lastS W.segs).size) (hz1 : (lastS W.segs).size ≤ 100000000) (hR : Rise W.ents) (hLl : W.ents.length ≤ 100000) (hm : ¬ more W.segs) :
    Tr Tryz.prog 31 [.pointer (some ⟨w, 0, none⟩), hrdV h, lv] [sl 70 entE lv l, blk w (lcell d W.hard ev sv), sl 70 entE ev W.ents, sl 94 segE sv W.segs, blk d (dcell m D), mp fmap m D.files]
      fun v Γ => ∃ ev' sv', v = .int .i64 (W.save D h l).1 ∧ Γ = [blk w (lcell d (W.save D h l).2.1.hard ev' sv'), sl 70 entE ev' (W.save D h l).2.1.ents, sl 94 segE sv' (W.save D h l).2.1.segs, blk d (dcell m (W.save D h l).2.2), mp fmap m (W.save D h l).2.2.files] := by
  have hlast : 0 < W.segs.length := List.length_pos_iff.2 hS
  have hn0r : 0 ≤ (W.segs.getD (((W.segs.length : Nat) : Int) - 1).toNat segE.dflt).number := hn0
  have hn1r : (W.segs.getD (((W.segs.length : Nat) : Int) - 1).toNat segE.dflt).number < 99 := hn1
  have hc1 : ¬ (h.term < 0 ∨ h.vote < 0 ∨ (l.any fun e => !e.right) = true) := by rw [hany]; simp; omega
  have hpos : ∀ e ∈ l, 0 < e.index := fun e he => by
    have := List.any_eq_false.1 hany e he
    have hr : e.right = true := by simpa using this
    simp only [Ent.right, Bool.and_eq_true, decide_eq_true_eq] at hr
    exact hr.1.1.1
  have htell : (!eqCells [.int .i64 h.term, .int .i64 h.vote] [.int .i64 W.hard.term, .int .i64 W.hard.vote]) = decide (h ≠ W.hard) := by rw [eqH]; simp
  refine Tr_of_J Tryz.func31 follows rfl Tryz.ntmps31 (by simp) fun B F => ?_
  repeat' (first | (refine cl (containsFunc0_tr lv l (by omega) hany) ?_; rintro r Γ' ⟨rfl, rfl⟩; refine n1 ?_) | refine mv ?_ | refine asn ?_ | refine jn ?_ | refine nl ?_ | refine ld rfl ?_ | refine nc ?_ | refine f0 ?_ | refine sq ?_ | refine rg ?_ | refine lnb ?_ | refine lls rfl ?_ | refine ad ?_ | refine sb ?_ | refine lss ?_ | refine eql ?_ | refine neq ?_ | refine gtr ?_ | refine geq ?_ | refine p1 ?_ | refine p0 ?_ | refine sk2 ?_ | refine kp ?_ | refine ct ?_ | refine cf ?_ | (refine cd (fun hc => ?_) (fun hc => ?_) <;> try (exfalso; omega)) | (refine cn (fun hc => ?_) (fun hc => ?_) <;> try (exfalso; omega)) | refine bl ?_ | refine ib ?_ | refine xt ?_ | refine bx (fun b_ => ?_) | refine al (fun b_ => ?_) | refine sr rfl ?_ | refine la rfl ?_ | refine ixa rfl rfl ?_ | refine fe ?_ | refine lde rfl ?_ | refine lae rfl ?_ | refine fa ?_ | refine bld ?_ | refine seq ?_ | refine sne ?_ | refine cc ?_ | refine af_ ?_ | (refine gd (fun hc => ?_) (fun hc => ?_) <;> try (exfalso; omega)) | (refine gn (fun hc => ?_) (fun hc => ?_) <;> try (exfalso; omega)) | refine aw ?_ | refine sw ?_ | refine aeq ?_ | refine ane ?_ | refine cb (fun hc => ?_) (fun hc => ?_) | refine gs (fun hc => ?_) (fun hc => ?_) | refine J_draw (id := 11) [(0, true, []), (1, true, []), (2, true, []), (3, true, []), (4, true, []), (5, true, []), (6, true, []), (7, true, []), (8, true, []), (9, true, []), (10, true, [])] (by kernel_rfl) ?_ | refine J_draw2 (id := 16) [(0, true, []), (1, true, []), (3, true, []), (4, true, []), (5, true, []), (6, true, []), (2, false, [0, 3, 4, 5, 6]), (7, false, [0, 1]), (8, false, [0]), (9, true, []), (10, true, []), (11, false, [])] [(0, true, []), (1, true, []), (3, true, []), (4, true, []), (5, true, []), (6, true, []), (7, false, [0, 1]), (2, false, [0, 3, 4, 5, 6]), (8, false, [0]), (9, true, []), (10, true, []), (11, false, [])] (by kernel_rfl) ?_ ?_ | refine J_draw (id := 17) [(0, true, []), (1, true, []), (2, true, []), (3, true, []), (4, true, []), (5, true, []), (6, true, []), (7, true, []), (8, true, []), (9, false, []), (10, true, [])] (by kernel_rfl) ?_ | refine JS_cons rfl rfl (RO_move rfl) ?_ | refine JS_cons rfl rfl (RO_nilCheck rfl) ?_ | refine JS_cons rfl rfl (RO_fieldAddr0 rfl) ?_ | refine JS_cons rfl rfl (RO_load rfl (by rfl)) ?_ | refine JS_off rfl ?_ | refine JS_cons rfl rfl (RO_fieldAddr rfl) ?_ | refine JS_cons rfl rfl (RO_lnb rfl) ?_ | refine JS_cons rfl rfl (RO_lls rfl) ?_ | refine JS_cons rfl rfl (RO_add_in rfl rfl (by omega)) ?_ | refine JS_cons rfl rfl (RO_sub_in rfl rfl (by omega)) ?_ | refine JS_cons rfl rfl (RO_ixa rfl rfl (by omega)) ?_ | refine JS_cons rfl rfl (RO_fe rfl) ?_ | refine JS_cons rfl rfl (RO_lde rfl (by omega) rfl) ?_ | refine JS_offu rfl ?_ | refine JS_cons rfl rfl (RO_cc rfl rfl (by omega)) ?_ | refine JS_cons rfl rfl (RO_bld rfl (by (repeat (first | exact FillS.nil | (apply FillS.cons; rfl; rfl; constructor; rfl; (focus repeat constructor)))))) ?_ | refine JS_cons rfl rfl (RO_lae rfl (by omega) (by repeat constructor)) ?_ | refine JS_cons rfl rfl (RO_loadAgg rfl (by repeat constructor)) ?_ | fail)
  refine J_sat (Γ' := sl 9 strE (.slice none 0 0) [] :: _) ?_ fun w hS => sl_nil hS
  refine lp (α := Nat × Int × Value × List (List UInt8)) (fun y => [(0, .pointer (some ⟨w, 0, none⟩)), (2, lv), (4, .pointer (some ⟨b_, 0, none⟩)), (7, y.2.2.1), (27, lv), (28, .int .i64 l.length), (29, .int .i64 y.2.1)]) (fun y => [sl 9 strE y.2.2.1 y.2.2.2, blk b_ (.cells ⟨[.int .i64 h.term, .int .i64 h.vote]⟩ 50 (0, 0)), sl 70 entE lv l, blk w (lcell d W.hard ev sv), sl 70 entE ev W.ents, sl 94 segE sv W.segs, blk d (dcell m D), mp fmap m D.files]) (fun y => y.2.1 = (y.1 : Int) ∧ y.1 ≤ l.length ∧ y.2.2.2 = (l.take y.1).map entText) (fun y => l.length - y.1) (0, 0, .slice none 0 0, []) ?_ ⟨rfl, Nat.zero_le _, rfl⟩
  rintro ⟨i, n, pv, X⟩ ⟨hn, hi, hX⟩ again
  dsimp only at hn hi hX again ⊢
  subst hn
  have hXl : X.length ≤ 100 := by rw [hX, List.length_map, List.length_take]; omega
  have hgd : i < l.length → (l.getD i .none).In ∧ (l.getD i .none).data.length ≤ 60000 := fun hi => by
    rw [getD_of hi]; exact hli _ (List.getElem_mem hi)
  have hXe : (X ++ [entText (l.getD i .none)]).length = X.length + 1 := by simp
  have hXg : i < l.length → ((X ++ [entText (l.getD i .none)]).getD ((((X ++ [entText (l.getD i .none)]).length : Nat) : Int) - 1).toNat strE.dflt).length ≤ 65536 := fun hi => by
    have e : ((((X ++ [entText (l.getD i .none)]).length : Nat) : Int) - 1).toNat = X.length := by rw [hXe]; omega
    rw [e]
    have := entText_len (hgd hi).1 (hgd hi).2
    have := (hgd hi).2
    rw [getD_last]; omega
  repeat' (first | (refine cl (entText_tr (l.getD i .none) (hgd (by omega)).1 (by have := (hgd (by omega)).2; omega)) ?_; rintro r Γ' ⟨rfl, rfl⟩; refine n0 ?_) | refine bsl (e := strE) (X := [entText (l.getD i .none)]) (fun v2 => ?_) (.cona rfl rfl .nil) | refine apo rfl rfl (fun v3 => ?_) (by simp; omega) (by simp; omega) | refine mv ?_ | refine asn ?_ | refine jn ?_ | refine nl ?_ | refine ld rfl ?_ | refine nc ?_ | refine f0 ?_ | refine sq ?_ | refine rg ?_ | refine lnb ?_ | refine lls rfl ?_ | refine ad ?_ | refine sb ?_ | refine lss ?_ | refine eql ?_ | refine neq ?_ | refine gtr ?_ | refine geq ?_ | refine p1 ?_ | refine p0 ?_ | refine sk2 ?_ | refine kp ?_ | refine ct ?_ | refine cf ?_ | (refine cd (fun hc => ?_) (fun hc => ?_) <;> try (exfalso; omega)) | (refine cn (fun hc => ?_) (fun hc => ?_) <;> try (exfalso; omega)) | refine bl ?_ | refine ib ?_ | refine xt ?_ | refine bx (fun b_ => ?_) | refine al (fun b_ => ?_) | refine sr rfl ?_ | refine la rfl ?_ | refine ixa rfl rfl ?_ | refine fe ?_ | refine lde rfl ?_ | refine lae rfl ?_ | refine fa ?_ | refine bld ?_ | refine seq ?_ | refine sne ?_ | refine cc ?_ | refine af_ ?_ | (refine gd (fun hc => ?_) (fun hc => ?_) <;> try (exfalso; omega)) | (refine gn (fun hc => ?_) (fun hc => ?_) <;> try (exfalso; omega)) | refine aw ?_ | refine sw ?_ | refine aeq ?_ | refine ane ?_ | refine cb (fun hc => ?_) (fun hc => ?_) | refine gs (fun hc => ?_) (fun hc => ?_) | refine J_draw (id := 11) [(0, true, []), (1, true, []), (2, true, []), (3, true, []), (4, true, []), (5, true, []), (6, true, []), (7, true, []), (8, true, []), (9, true, []), (10, true, [])] (by kernel_rfl) ?_ | refine J_draw2 (id := 16) [(0, true, []), (1, true, []), (3, true, []), (4, true, []), (5, true, []), (6, true, []), (2, false, [0, 3, 4, 5, 6]), (7, false, [0, 1]), (8, false, [0]), (9, true, []), (10, true, []), (11, false, [])] [(0, true, []), (1, true, []), (3, true, []), (4, true, []), (5, true, []), (6, true, []), (7, false, [0, 1]), (2, false, [0, 3, 4, 5, 6]), (8, false, [0]), (9, true, []), (10, true, []), (11, false, [])] (by kernel_rfl) ?_ ?_ | refine J_draw (id := 17) [(0, true, []), (1, true, []), (2, true, []), (3, true, []), (4, true, []), (5, true, []), (6, true, []), (7, true, []), (8, true, []), (9, false, []), (10, true, [])] (by kernel_rfl) ?_ | refine JS_cons rfl rfl (RO_move rfl) ?_ | refine JS_cons rfl rfl (RO_nilCheck rfl) ?_ | refine JS_cons rfl rfl (RO_fieldAddr0 rfl) ?_ | refine JS_cons rfl rfl (RO_load rfl (by rfl)) ?_ | refine JS_off rfl ?_ | refine JS_cons rfl rfl (RO_fieldAddr rfl) ?_ | refine JS_cons rfl rfl (RO_lnb rfl) ?_ | refine JS_cons rfl rfl (RO_lls rfl) ?_ | refine JS_cons rfl rfl (RO_add_in rfl rfl (by omega)) ?_ | refine JS_cons rfl rfl (RO_sub_in rfl rfl (by omega)) ?_ | refine JS_cons rfl rfl (RO_ixa rfl rfl (by omega)) ?_ | refine JS_cons rfl rfl (RO_fe rfl) ?_ | refine JS_cons rfl rfl (RO_lde rfl (by omega) rfl) ?_ | refine JS_offu rfl ?_ | refine JS_cons rfl rfl (RO_cc rfl rfl (by omega)) ?_ | refine JS_cons rfl rfl (RO_bld rfl (by (repeat (first | exact FillS.nil | (apply FillS.cons; rfl; rfl; constructor; rfl; (focus repeat constructor)))))) ?_ | refine JS_cons rfl rfl (RO_lae rfl (by omega) (by repeat constructor)) ?_ | refine JS_cons rfl rfl (RO_loadAgg rfl (by repeat constructor)) ?_ | fail)
  · have hi' : i < l.length := by omega
    exact ag (again (i + 1, (i : Int) + 1, v3, X ++ [entText (l.getD i .none)]) ⟨by dsimp only; omega, hi', by dsimp only; rw [hX, List.take_succ_eq_append_getElem hi', List.map_append, getD_of hi']; rfl⟩ (by dsimp only; omega))
  · have h2 : l = [] := List.length_eq_zero_iff.1 (by omega)
    have h3 : h = W.hard := by
      have h4 : eqCells [.int .i64 h.term, .int .i64 h.vote] [.int .i64 W.hard.term, .int .i64 W.hard.vote] = true := by assumption
      rw [eqH] at h4; exact of_decide_eq_true h4
    have e : W.save D h l = (0, W, D) := by unfold LogS.save; rw [if_neg hc1, if_pos ⟨h2, h3⟩]
    rw [e]
    refine rt ?_
    exact ⟨_, ⟨_, _, rfl, rfl⟩, _, by repeat constructor⟩
  all_goals first | (exfalso; exact hm ⟨by assumption, by assumption⟩) | skip
  all_goals
    have hil : i = l.length := by omega
    have hne : ¬ (l = [] ∧ h = W.hard) := by
      rintro ⟨rfl, rfl⟩
      first
        | exact absurd rfl (by assumption)
        | (have h4 : eqCells [.int .i64 W.hard.term, .int .i64 W.hard.vote] [.int .i64 W.hard.term, .int .i64 W.hard.vote] = false := (by assumption)
           rw [eqH] at h4; simp at h4)
        | (exfalso; simp_all)
    rw [hil, List.take_length] at hX
    subst hX
    generalize hte : (!eqCells [.int .i64 h.term, .int .i64 h.vote] [.int .i64 W.hard.term, .int .i64 W.hard.vote]) = tell
    rw [hte] at htell
    have hps : ∀ p ∈ l.map entText, p.length ≤ 65536 := fun p hp => by
      obtain ⟨e, he, rfl⟩ := List.mem_map.1 hp
      have h2 := hli e he
      have := entText_len h2.1 h2.2
      omega
    have hbg : begun W.segs = W.segs := if_neg hm
    have hq : (tell = true ∨ (lastS W.segs).size = 0) ∨ l.map entText ≠ [] := by
      by_cases h2 : l = []
      · left; left
        rw [htell]; simp; exact fun h3 => hne ⟨h2, h3⟩
      · right; simpa using h2
    have gS : W.segs ≠ [] := hS
    have gl : (W.segs).length ≤ 100000 := (by omega)
    have gn0 : 0 ≤ (lastS W.segs).number := hn0
    have gn1 : (lastS W.segs).number < 100 := (by omega)
    have gz0 : 0 ≤ (lastS W.segs).size := hz0
    have gz1 : (lastS W.segs).size ≤ 100000000 := hz1
    have kS : layS W.segs D h tell (l.map entText) ≠ [] := ne_of_len (layS_len _ _ _ _ _) gS
    have kl : (layS W.segs D h tell (l.map entText)).length ≤ 100000 := by rw [layS_len]; exact gl
    have kn0 : 0 ≤ (lastS (layS W.segs D h tell (l.map entText))).number := by rw [layS_num gS]; exact gn0
    have kn1 : (lastS (layS W.segs D h tell (l.map entText))).number < 100 := by rw [layS_num gS]; exact gn1
    repeat' (first | (refine cl (lay_tr w d m W.hard ev sv pv W.segs D hD h hh tell (l.map entText) hps (by rw [List.length_map]; exact hl) gS gl gn0 gn1 gz0 gz1 hq) ?_; rintro r Γ' ⟨rfl, rfl⟩; refine n4 ?_) | (refine cl (still_tr w d m W.hard ev sv sv (layS W.segs D h tell (l.map entText)) (layD W.segs D h tell (l.map entText)) (layD_ok hD _ _ _ _) kS kl kn0 kn1) ?_; rintro r Γ' ⟨hr, rfl⟩; refine n4 ?_; (replace hr : r = sv := by rw [hr]; exact ite_self _); subst hr) | refine sro rfl rfl ?_ | refine mv ?_ | refine asn ?_ | refine jn ?_ | refine nl ?_ | refine ld rfl ?_ | refine nc ?_ | refine f0 ?_ | refine sq ?_ | refine rg ?_ | refine lnb ?_ | refine lls rfl ?_ | refine ad ?_ | refine sb ?_ | refine lss ?_ | refine eql ?_ | refine neq ?_ | refine gtr ?_ | refine geq ?_ | refine p1 ?_ | refine p0 ?_ | refine sk2 ?_ | refine kp ?_ | refine ct ?_ | refine cf ?_ | (refine cd (fun hc => ?_) (fun hc => ?_) <;> try (exfalso; omega)) | (refine cn (fun hc => ?_) (fun hc => ?_) <;> try (exfalso; omega)) | refine bl ?_ | refine ib ?_ | refine xt ?_ | refine bx (fun b_ => ?_) | refine al (fun b_ => ?_) | refine sr rfl ?_ | refine la rfl ?_ | refine ixa rfl rfl ?_ | refine fe ?_ | refine lde rfl ?_ | refine lae rfl ?_ | refine fa ?_ | refine bld ?_ | refine seq ?_ | refine sne ?_ | refine cc ?_ | refine af_ ?_ | (refine gd (fun hc => ?_) (fun hc => ?_) <;> try (exfalso; omega)) | (refine gn (fun hc => ?_) (fun hc => ?_) <;> try (exfalso; omega)) | refine aw ?_ | refine sw ?_ | refine aeq ?_ | refine ane ?_ | refine cb (fun hc => ?_) (fun hc => ?_) | refine gs (fun hc => ?_) (fun hc => ?_) | refine J_draw (id := 11) [(0, true, []), (1, true, []), (2, true, []), (3, true, []), (4, true, []), (5, true, []), (6, true, []), (7, true, []), (8, true, []), (9, true, []), (10, true, [])] (by kernel_rfl) ?_ | refine J_draw2 (id := 16) [(0, true, []), (1, true, []), (3, true, []), (4, true, []), (5, true, []), (6, true, []), (2, false, [0, 3, 4, 5, 6]), (7, false, [0, 1]), (8, false, [0]), (9, true, []), (10, true, []), (11, false, [])] [(0, true, []), (1, true, []), (3, true, []), (4, true, []), (5, true, []), (6, true, []), (7, false, [0, 1]), (2, false, [0, 3, 4, 5, 6]), (8, false, [0]), (9, true, []), (10, true, []), (11, false, [])] (by kernel_rfl) ?_ ?_ | refine J_draw (id := 17) [(0, true, []), (1, true, []), (2, true, []), (3, true, []), (4, true, []), (5, true, []), (6, true, []), (7, true, []), (8, true, []), (9, false, []), (10, true, [])] (by kernel_rfl) ?_ | refine JS_cons rfl rfl (RO_move rfl) ?_ | refine JS_cons rfl rfl (RO_nilCheck rfl) ?_ | refine JS_cons rfl rfl (RO_fieldAddr0 rfl) ?_ | refine JS_cons rfl rfl (RO_load rfl (by rfl)) ?_ | refine JS_off rfl ?_ | refine JS_cons rfl rfl (RO_fieldAddr rfl) ?_ | refine JS_cons rfl rfl (RO_lnb rfl) ?_ | refine JS_cons rfl rfl (RO_lls rfl) ?_ | refine JS_cons rfl rfl (RO_add_in rfl rfl (by omega)) ?_ | refine JS_cons rfl rfl (RO_sub_in rfl rfl (by omega)) ?_ | refine JS_cons rfl rfl (RO_ixa rfl rfl (by omega)) ?_ | refine JS_cons rfl rfl (RO_fe rfl) ?_ | refine JS_cons rfl rfl (RO_lde rfl (by omega) rfl) ?_ | refine JS_offu rfl ?_ | refine JS_cons rfl rfl (RO_cc rfl rfl (by omega)) ?_ | refine JS_cons rfl rfl (RO_bld rfl (by (repeat (first | exact FillS.nil | (apply FillS.cons; rfl; rfl; constructor; rfl; (focus repeat constructor)))))) ?_ | refine JS_cons rfl rfl (RO_lae rfl (by omega) (by repeat constructor)) ?_ | refine JS_cons rfl rfl (RO_loadAgg rfl (by repeat constructor)) ?_ | fail)
    all_goals first
      | (have hE : layE W.segs D h tell (l.map entText) ≠ 0 := (by assumption)
         have e : W.save D h l = (layE W.segs D h tell (l.map entText), { W with segs := layS W.segs D h tell (l.map entText) }, layD W.segs D h tell (l.map entText)) := (by
           unfold LogS.save
           rw [if_neg hc1, if_neg hne, hbg, ← htell, if_pos hE, if_neg hm])
         rw [e]
         skip
         refine rt ?_
         exact ⟨_, ⟨_, _, rfl, rfl⟩, _, by repeat constructor⟩)
      | skip
    all_goals
      have hE : layE W.segs D h tell (l.map entText) = 0 := by assumption
      have e : W.save D h l = (0, puts ({ W with hard := h, segs := layS W.segs D h tell (l.map entText) } : LogS) l, layD W.segs D h tell (l.map entText)) := by
        unfold LogS.save
        rw [if_neg hc1, if_neg hne, hbg, ← htell, if_neg (by rw [hE]; decide)]
      rw [e]
      refine lp (α := Nat × Int × Value × LogS) (fun y => [(0, .pointer (some ⟨w, 0, none⟩)), (110, lv), (111, .int .i64 l.length), (112, .int .i64 y.2.1)]) (fun y => [blk w (lcell d y.2.2.2.hard y.2.2.1 sv), sl 70 entE lv l, sl 70 entE y.2.2.1 y.2.2.2.ents, sl 94 segE sv y.2.2.2.segs, blk d (dcell m (layD W.segs D h tell (l.map entText))), mp fmap m (layD W.segs D h tell (l.map entText)).files]) (fun y => y.2.1 = (y.1 : Int) ∧ y.1 ≤ l.length ∧ y.2.2.2 = puts ({ W with hard := h, segs := layS W.segs D h tell (l.map entText) } : LogS) (l.take y.1) ∧ PutOk ({ W with hard := h, segs := layS W.segs D h tell (l.map entText) } : LogS) y.2.2.2 y.1) (fun y => l.length - y.1) (0, 0, ev, ({ W with hard := h, segs := layS W.segs D h tell (l.map entText) } : LogS)) ?_ ⟨rfl, Nat.zero_le _, rfl, ⟨hR, Nat.le_refl _, rfl, rfl⟩⟩
      clear again hgd hXg
      rintro ⟨j, n, ev1, V⟩ ⟨hn, hj, hV, hP⟩ again
      dsimp only at hn hj hV hP again ⊢
      subst hn
      have q1 := hP.rise
      have q2 : V.ents.length ≤ 1000000 := by
        have := hP.len
        have e1 : (({ W with hard := h, segs := layS W.segs D h tell (l.map entText) } : LogS)).ents.length = W.ents.length := rfl
        omega
      have q3 : V.segs ≠ [] := ne_of_len hP.slen kS
      have q4 : V.segs.length ≤ 100000 := by rw [hP.slen]; exact kl
      have q5 : j < l.length → (l.getD j .none).In ∧ 0 < (l.getD j .none).index := fun hj => by
        rw [getD_of hj]; exact ⟨(hli _ (List.getElem_mem hj)).1, hpos _ (List.getElem_mem hj)⟩
      repeat' (first | (refine cl (put_tr w d V.hard ev1 sv V.ents V.segs (l.getD j .none) (q5 (by omega)).1 (q5 (by omega)).2 q1 q3 q4 q2) ?_; rintro r Γ' ⟨ev2, rfl⟩; refine n3 ?_) | refine mv ?_ | refine asn ?_ | refine jn ?_ | refine nl ?_ | refine ld rfl ?_ | refine nc ?_ | refine f0 ?_ | refine sq ?_ | refine rg ?_ | refine lnb ?_ | refine lls rfl ?_ | refine ad ?_ | refine sb ?_ | refine lss ?_ | refine eql ?_ | refine neq ?_ | refine gtr ?_ | refine geq ?_ | refine p1 ?_ | refine p0 ?_ | refine sk2 ?_ | refine kp ?_ | refine ct ?_ | refine cf ?_ | (refine cd (fun hc => ?_) (fun hc => ?_) <;> try (exfalso; omega)) | (refine cn (fun hc => ?_) (fun hc => ?_) <;> try (exfalso; omega)) | refine bl ?_ | refine ib ?_ | refine xt ?_ | refine bx (fun b_ => ?_) | refine al (fun b_ => ?_) | refine sr rfl ?_ | refine la rfl ?_ | refine ixa rfl rfl ?_ | refine fe ?_ | refine lde rfl ?_ | refine lae rfl ?_ | refine fa ?_ | refine bld ?_ | refine seq ?_ | refine sne ?_ | refine cc ?_ | refine af_ ?_ | (refine gd (fun hc => ?_) (fun hc => ?_) <;> try (exfalso; omega)) | (refine gn (fun hc => ?_) (fun hc => ?_) <;> try (exfalso; omega)) | refine aw ?_ | refine sw ?_ | refine aeq ?_ | refine ane ?_ | refine cb (fun hc => ?_) (fun hc => ?_) | refine gs (fun hc => ?_) (fun hc => ?_) | refine J_draw (id := 11) [(0, true, []), (1, true, []), (2, true, []), (3, true, []), (4, true, []), (5, true, []), (6, true, []), (7, true, []), (8, true, []), (9, true, []), (10, true, [])] (by kernel_rfl) ?_ | refine J_draw2 (id := 16) [(0, true, []), (1, true, []), (3, true, []), (4, true, []), (5, true, []), (6, true, []), (2, false, [0, 3, 4, 5, 6]), (7, false, [0, 1]), (8, false, [0]), (9, true, []), (10, true, []), (11, false, [])] [(0, true, []), (1, true, []), (3, true, []), (4, true, []), (5, true, []), (6, true, []), (7, false, [0, 1]), (2, false, [0, 3, 4, 5, 6]), (8, false, [0]), (9, true, []), (10, true, []), (11, false, [])] (by kernel_rfl) ?_ ?_ | refine J_draw (id := 17) [(0, true, []), (1, true, []), (2, true, []), (3, true, []), (4, true, []), (5, true, []), (6, true, []), (7, true, []), (8, true, []), (9, false, []), (10, true, [])] (by kernel_rfl) ?_ | refine JS_cons rfl rfl (RO_move rfl) ?_ | refine JS_cons rfl rfl (RO_nilCheck rfl) ?_ | refine JS_cons rfl rfl (RO_fieldAddr0 rfl) ?_ | refine JS_cons rfl rfl (RO_load rfl (by rfl)) ?_ | refine JS_off rfl ?_ | refine JS_cons rfl rfl (RO_fieldAddr rfl) ?_ | refine JS_cons rfl rfl (RO_lnb rfl) ?_ | refine JS_cons rfl rfl (RO_lls rfl) ?_ | refine JS_cons rfl rfl (RO_add_in rfl rfl (by omega)) ?_ | refine JS_cons rfl rfl (RO_sub_in rfl rfl (by omega)) ?_ | refine JS_cons rfl rfl (RO_ixa rfl rfl (by omega)) ?_ | refine JS_cons rfl rfl (RO_fe rfl) ?_ | refine JS_cons rfl rfl (RO_lde rfl (by omega) rfl) ?_ | refine JS_offu rfl ?_ | refine JS_cons rfl rfl (RO_cc rfl rfl (by omega)) ?_ | refine JS_cons rfl rfl (RO_bld rfl (by (repeat (first | exact FillS.nil | (apply FillS.cons; rfl; rfl; constructor; rfl; (focus repeat constructor)))))) ?_ | refine JS_cons rfl rfl (RO_lae rfl (by omega) (by repeat constructor)) ?_ | refine JS_cons rfl rfl (RO_loadAgg rfl (by repeat constructor)) ?_ | fail)
      all_goals first
        | (have hj' : j < l.length := (by omega)
           exact ag (again (j + 1, (j : Int) + 1, ev2, V.put (l.getD j .none)) ⟨(by dsimp only; omega), hj', (by dsimp only; rw [hV, puts_take hj']), hP.put (q5 hj').1 (q5 hj').2⟩ (by dsimp only; omega)))
        | (have hjl : j = l.length := (by omega)
           rw [hjl, List.take_length] at hV
           subst hV
           refine rt ?_
           exact ⟨_, ⟨_, _, rfl, rfl⟩, _, by repeat constructor⟩)
end Go.Proofs.YtaeefjcbmkiiaaaGreatDoor
/- The log: a save behind which a segment is begun; any save. -/
namespace Go.Proofs.YtaeefjcbmkiiaaaGreatDoor
open Go Sl
attribute [local irreducible] J JR JS RO CR Arr Sat Tr sat blk
set_option linter.unusedVariables false
set_option maxHeartbeats 800000
set_option maxRecDepth 4000
theorem save_more (w d m : Nat) (lv : Value) (W : LogS) (ev sv : Value) (D : DiskS) (hD : D.Ok) (h : Hrd) (hh : h.In) (l : List Ent) (hl : l.length ≤ 100) (hli : ∀ e ∈ l, e.In ∧ e.data.length ≤ 60000) (h0 : 0 ≤ h.term) (h1 : 0 ≤ h.vote) (hany : (l.any fun e => !e.right) = false)
    (hS : W.segs ≠ []) (hSl : W.segs.length ≤ 1000) (hn0 : 0 ≤ (lastS W.segs).number) (hn1 : (lastS W.segs).number < 99) (hz0 : 0 ≤ (lastS W.segs).size) (hz1 : (lastS W.segs).size ≤ 100000000) (hR : Rise W.ents) (hLl : W.ents.length ≤ 100000) (hm : more W.segs) :
    Tr Tryz.prog 31 [.pointer (some ⟨w, 0, none⟩), hrdV h, lv] [sl 70 entE lv l, blk w (lcell d W.hard ev sv), sl 70 entE ev W.ents, sl 94 segE sv W.segs, blk d (dcell m D), mp fmap m D.files]
      fun v Γ => ∃ ev' sv', v = .int .i64 (W.save D h l).1 ∧ Γ = [blk w (lcell d (W.save D h l).2.1.hard ev' sv'), sl 70 entE ev' (W.save D h l).2.1.ents, sl 94 segE sv' (W.save D h l).2.1.segs, blk d (dcell m (W.save D h l).2.2), mp fmap m (W.save D h l).2.2.files] := by
  have hlast : 0 < W.segs.length := List.length_pos_iff.2 hS
  have hn0r : 0 ≤ (W.segs.getD (((W.segs.length : Nat) : Int) - 1).toNat segE.dflt).number := hn0
  have hn1r : (W.segs.getD (((W.segs.length : Nat) : Int) - 1).toNat segE.dflt).number < 99 := hn1
  have hc1 : ¬ (h.term < 0 ∨ h.vote < 0 ∨ (l.any fun e => !e.right) = true) := by rw [hany]; simp; omega
  have hpos : ∀ e ∈ l, 0 < e.index := fun e he => by
    have := List.any_eq_false.1 hany e he
    have hr : e.right = true := by simpa using this
    simp only [Ent.right, Bool.and_eq_true, decide_eq_true_eq] at hr
    exact hr.1.1.1
  have htell : (!eqCells [.int .i64 h.term, .int .i64 h.vote] [.int .i64 W.hard.term, .int .i64 W.hard.vote]) = decide (h ≠ W.hard) := by rw [eqH]; simp
  refine Tr_of_J Tryz.func31 follows rfl Tryz.ntmps31 (by simp) fun B F => ?_
  repeat' (first | (refine cl (containsFunc0_tr lv l (by omega) hany) ?_; rintro r Γ' ⟨rfl, rfl⟩; refine n1 ?_) | refine mv ?_ | refine asn ?_ | refine jn ?_ | refine nl ?_ | refine ld rfl ?_ | refine nc ?_ | refine f0 ?_ | refine sq ?_ | refine rg ?_ | refine lnb ?_ | refine lls rfl ?_ | refine ad ?_ | refine sb ?_ | refine lss ?_ | refine eql ?_ | refine neq ?_ | refine gtr ?_ | refine geq ?_ | refine p1 ?_ | refine p0 ?_ | refine sk2 ?_ | refine kp ?_ | refine ct ?_ | refine cf ?_ | (refine cd (fun hc => ?_) (fun hc => ?_) <;> try (exfalso; omega)) | (refine cn (fun hc => ?_) (fun hc => ?_) <;> try (exfalso; omega)) | refine bl ?_ | refine ib ?_ | refine xt ?_ | refine bx (fun b_ => ?_) | refine al (fun b_ => ?_) | refine sr rfl ?_ | refine la rfl ?_ | refine ixa rfl rfl ?_ | refine fe ?_ | refine lde rfl ?_ | refine lae rfl ?_ | refine fa ?_ | refine bld ?_ | refine seq ?_ | refine sne ?_ | refine cc ?_ | refine af_ ?_ | (refine gd (fun hc => ?_) (fun hc => ?_) <;> try (exfalso; omega)) | (refine gn (fun hc => ?_) (fun hc => ?_) <;> try (exfalso; omega)) | refine aw ?_ | refine sw ?_ | refine aeq ?_ | refine ane ?_ | refine cb (fun hc => ?_) (fun hc => ?_) | refine gs (fun hc => ?_) (fun hc => ?_) | refine J_draw (id := 11) [(0, true, []), (1, true, []), (2, true, []), (3, true, []), (4, true, []), (5, true, []), (6, true, []), (7, true, []), (8, true, []), (9, true, []), (10, true, [])] (by kernel_rfl) ?_ | refine J_draw2 (id := 16) [(0, true, []), (1, true, []), (3, true, []), (4, true, []), (5, true, []), (6, true, []), (2, false, [0, 3, 4, 5, 6]), (7, false, [0, 1]), (8, false, [0]), (9, true, []), (10, true, []), (11, false, [])] [(0, true, []), (1, true, []), (3, true, []), (4, true, []), (5, true, []), (6, true, []), (7, false, [0, 1]), (2, false, [0, 3, 4, 5, 6]), (8, false, [0]), (9, true, []), (10, true, []), (11, false, [])] (by kernel_rfl) ?_ ?_ | refine J_draw (id := 17) [(0, true, []), (1, true, []), (2, true, []), (3, true, []), (4, true, []), (5, true, []), (6, true, []), (7, true, []), (8, true, []), (9, false, []), (10, true, [])] (by kernel_rfl) ?_ | refine JS_cons rfl rfl (RO_move rfl) ?_ | refine JS_cons rfl rfl (RO_nilCheck rfl) ?_ | refine JS_cons rfl rfl (RO_fieldAddr0 rfl) ?_ | refine JS_cons rfl rfl (RO_load rfl (by rfl)) ?_ | refine JS_off rfl ?_ | refine JS_cons rfl rfl (RO_fieldAddr rfl) ?_ | refine JS_cons rfl rfl (RO_lnb rfl) ?_ | refine JS_cons rfl rfl (RO_lls rfl) ?_ | refine JS_cons rfl rfl (RO_add_in rfl rfl (by omega)) ?_ | refine JS_cons rfl rfl (RO_sub_in rfl rfl (by omega)) ?_ | refine JS_cons rfl rfl (RO_ixa rfl rfl (by omega)) ?_ | refine JS_cons rfl rfl (RO_fe rfl) ?_ | refine JS_cons rfl rfl (RO_lde rfl (by omega) rfl) ?_ | refine JS_offu rfl ?_ | refine JS_cons rfl rfl (RO_cc rfl rfl (by omega)) ?_ | refine JS_cons rfl rfl (RO_bld rfl (by (repeat (first | exact FillS.nil | (apply FillS.cons; rfl; rfl; constructor; rfl; (focus repeat constructor)))))) ?_ | refine JS_cons rfl rfl (RO_lae rfl (by omega) (by repeat constructor)) ?_ | refine JS_cons rfl rfl (RO_loadAgg rfl (by repeat constructor)) ?_ | fail)
  refine J_sat (Γ' := sl 9 strE (.slice none 0 0) [] :: _) ?_ fun w hS => sl_nil hS
  refine lp (α := Nat × Int × Value × List (List UInt8)) (fun y => [(0, .pointer (some ⟨w, 0, none⟩)), (2, lv), (4, .pointer (some ⟨b_, 0, none⟩)), (7, y.2.2.1), (27, lv), (28, .int .i64 l.length), (29, .int .i64 y.2.1)]) (fun y => [sl 9 strE y.2.2.1 y.2.2.2, blk b_ (.cells ⟨[.int .i64 h.term, .int .i64 h.vote]⟩ 50 (0, 0)), sl 70 entE lv l, blk w (lcell d W.hard ev sv), sl 70 entE ev W.ents, sl 94 segE sv W.segs, blk d (dcell m D), mp fmap m D.files]) (fun y => y.2.1 = (y.1 : Int) ∧ y.1 ≤ l.length ∧ y.2.2.2 = (l.take y.1).map entText) (fun y => l.length - y.1) (0, 0, .slice none 0 0, []) ?_ ⟨rfl, Nat.zero_le _, rfl⟩
  rintro ⟨i, n, pv, X⟩ ⟨hn, hi, hX⟩ again
  dsimp only at hn hi hX again ⊢
  subst hn
  have hXl : X.length ≤ 100 := by rw [hX, List.length_map, List.length_take]; omega
  have hgd : i < l.length → (l.getD i .none).In ∧ (l.getD i .none).data.length ≤ 60000 := fun hi => by
    rw [getD_of hi]; exact hli _ (List.getElem_mem hi)
  have hXe : (X ++ [entText (l.getD i .none)]).length = X.length + 1 := by simp
  have hXg : i < l.length → ((X ++ [entText (l.getD i .none)]).getD ((((X ++ [entText (l.getD i .none)]).length : Nat) : Int) - 1).toNat strE.dflt).length ≤ 65536 := fun hi => by
    have e : ((((X ++ [entText (l.getD i .none)]).length : Nat) : Int) - 1).toNat = X.length := by rw [hXe]; omega
    rw [e]
    have := entText_len (hgd hi).1 (hgd hi).2
    have := (hgd hi).2
    rw [getD_last]; omega
  repeat' (first | (refine cl (entText_tr (l.getD i .none) (hgd (by omega)).1 (by have := (hgd (by omega)).2; omega)) ?_; rintro r Γ' ⟨rfl, rfl⟩; refine n0 ?_) | refine bsl (e := strE) (X := [entText (l.getD i .none)]) (fun v2 => ?_) (.cona rfl rfl .nil) | refine apo rfl rfl (fun v3 => ?_) (by simp; omega) (by simp; omega) | (refine cl (cloneS_tr sv W.segs (by omega)) ?_; rintro r6 Γ' rfl; refine n2 ?_) | refine bsl (e := segE) (X := [⟨(lastS W.segs).number + 1, 0, 0⟩]) (fun v5 => ?_) (.cona rfl rfl .nil) | refine sro rfl rfl ?_ | refine mv ?_ | refine asn ?_ | refine jn ?_ | refine nl ?_ | refine ld rfl ?_ | refine nc ?_ | refine f0 ?_ | refine sq ?_ | refine rg ?_ | refine lnb ?_ | refine lls rfl ?_ | refine ad ?_ | refine sb ?_ | refine lss ?_ | refine eql ?_ | refine neq ?_ | refine gtr ?_ | refine geq ?_ | refine p1 ?_ | refine p0 ?_ | refine sk2 ?_ | refine kp ?_ | refine ct ?_ | refine cf ?_ | (refine cd (fun hc => ?_) (fun hc => ?_) <;> try (exfalso; omega)) | (refine cn (fun hc => ?_) (fun hc => ?_) <;> try (exfalso; omega)) | refine bl ?_ | refine ib ?_ | refine xt ?_ | refine bx (fun b_ => ?_) | refine al (fun b_ => ?_) | refine sr rfl ?_ | refine la rfl ?_ | refine ixa rfl rfl ?_ | refine fe ?_ | refine lde rfl ?_ | refine lae rfl ?_ | refine fa ?_ | refine bld ?_ | refine seq ?_ | refine sne ?_ | refine cc ?_ | refine af_ ?_ | (refine gd (fun hc => ?_) (fun hc => ?_) <;> try (exfalso; omega)) | (refine gn (fun hc => ?_) (fun hc => ?_) <;> try (exfalso; omega)) | refine aw ?_ | refine sw ?_ | refine aeq ?_ | refine ane ?_ | refine cb (fun hc => ?_) (fun hc => ?_) | refine gs (fun hc => ?_) (fun hc => ?_) | refine J_draw (id := 11) [(0, true, []), (1, true, []), (2, true, []), (3, true, []), (4, true, []), (5, true, []), (6, true, []), (7, true, []), (8, true, []), (9, true, []), (10, true, [])] (by kernel_rfl) ?_ | refine J_draw2 (id := 16) [(0, true, []), (1, true, []), (3, true, []), (4, true, []), (5, true, []), (6, true, []), (2, false, [0, 3, 4, 5, 6]), (7, false, [0, 1]), (8, false, [0]), (9, true, []), (10, true, []), (11, false, [])] [(0, true, []), (1, true, []), (3, true, []), (4, true, []), (5, true, []), (6, true, []), (7, false, [0, 1]), (2, false, [0, 3, 4, 5, 6]), (8, false, [0]), (9, true, []), (10, true, []), (11, false, [])] (by kernel_rfl) ?_ ?_ | refine J_draw (id := 17) [(0, true, []), (1, true, []), (2, true, []), (3, true, []), (4, true, []), (5, true, []), (6, true, []), (7, true, []), (8, true, []), (9, false, []), (10, true, [])] (by kernel_rfl) ?_ | refine JS_cons rfl rfl (RO_move rfl) ?_ | refine JS_cons rfl rfl (RO_nilCheck rfl) ?_ | refine JS_cons rfl rfl (RO_fieldAddr0 rfl) ?_ | refine JS_cons rfl rfl (RO_load rfl (by rfl)) ?_ | refine JS_off rfl ?_ | refine JS_cons rfl rfl (RO_fieldAddr rfl) ?_ | refine JS_cons rfl rfl (RO_lnb rfl) ?_ | refine JS_cons rfl rfl (RO_lls rfl) ?_ | refine JS_cons rfl rfl (RO_add_in rfl rfl (by omega)) ?_ | refine JS_cons rfl rfl (RO_sub_in rfl rfl (by omega)) ?_ | refine JS_cons rfl rfl (RO_ixa rfl rfl (by omega)) ?_ | refine JS_cons rfl rfl (RO_fe rfl) ?_ | refine JS_cons rfl rfl (RO_lde rfl (by omega) rfl) ?_ | refine JS_offu rfl ?_ | refine JS_cons rfl rfl (RO_cc rfl rfl (by omega)) ?_ | refine JS_cons rfl rfl (RO_bld rfl (by (repeat (first | exact FillS.nil | (apply FillS.cons; rfl; rfl; constructor; rfl; (focus repeat constructor)))))) ?_ | refine JS_cons rfl rfl (RO_lae rfl (by omega) (by repeat constructor)) ?_ | refine JS_cons rfl rfl (RO_loadAgg rfl (by repeat constructor)) ?_ | fail)
  · have hi' : i < l.length := by omega
    exact ag (again (i + 1, (i : Int) + 1, v3, X ++ [entText (l.getD i .none)]) ⟨by dsimp only; omega, hi', by dsimp only; rw [hX, List.take_succ_eq_append_getElem hi', List.map_append, getD_of hi']; rfl⟩ (by dsimp only; omega))
  · have h2 : l = [] := List.length_eq_zero_iff.1 (by omega)
    have h3 : h = W.hard := by
      have h4 : eqCells [.int .i64 h.term, .int .i64 h.vote] [.int .i64 W.hard.term, .int .i64 W.hard.vote] = true := by assumption
      rw [eqH] at h4; exact of_decide_eq_true h4
    have e : W.save D h l = (0, W, D) := by unfold LogS.save; rw [if_neg hc1, if_pos ⟨h2, h3⟩]
    rw [e]
    refine rt ?_
    exact ⟨_, ⟨_, _, rfl, rfl⟩, _, by repeat constructor⟩
  all_goals first | (exfalso; first | exact absurd hm.1 (by assumption) | exact absurd hm.2 (by assumption)) | skip
  all_goals
    have hil : i = l.length := by omega
    have hne : ¬ (l = [] ∧ h = W.hard) := by
      rintro ⟨rfl, rfl⟩
      first
        | exact absurd rfl (by assumption)
        | (have h4 : eqCells [.int .i64 W.hard.term, .int .i64 W.hard.vote] [.int .i64 W.hard.term, .int .i64 W.hard.vote] = false := (by assumption)
           rw [eqH] at h4; simp at h4)
        | (exfalso; simp_all)
    rw [hil, List.take_length] at hX
    subst hX
    generalize hte : (!eqCells [.int .i64 h.term, .int .i64 h.vote] [.int .i64 W.hard.term, .int .i64 W.hard.vote]) = tell
    rw [hte] at htell
    have hps : ∀ p ∈ l.map entText, p.length ≤ 65536 := fun p hp => by
      obtain ⟨e, he, rfl⟩ := List.mem_map.1 hp
      have h2 := hli e he
      have := entText_len h2.1 h2.2
      omega
    have hbg : begun W.segs = (next W.segs) := if_pos hm
    have hq : (tell = true ∨ (lastS (next W.segs)).size = 0) ∨ l.map entText ≠ [] := by
      by_cases h2 : l = []
      · left; left
        rw [htell]; simp; exact fun h3 => hne ⟨h2, h3⟩
      · right; simpa using h2
    have gS : (next W.segs) ≠ [] := (by simp [next])
    have gl : ((next W.segs)).length ≤ 100000 := (by simp [next]; omega)
    have gn0 : 0 ≤ (lastS (next W.segs)).number := (by rw [next_last]; show 0 ≤ (lastS W.segs).number + 1; omega)
    have gn1 : (lastS (next W.segs)).number < 100 := (by rw [next_last]; show (lastS W.segs).number + 1 < 100; omega)
    have gz0 : 0 ≤ (lastS (next W.segs)).size := (by rw [next_last]; exact Int.le_refl 0)
    have gz1 : (lastS (next W.segs)).size ≤ 100000000 := (by rw [next_last]; show (0 : Int) ≤ _; omega)
    have kS : layS (next W.segs) D h tell (l.map entText) ≠ [] := ne_of_len (layS_len _ _ _ _ _) gS
    have kl : (layS (next W.segs) D h tell (l.map entText)).length ≤ 100000 := by rw [layS_len]; exact gl
    have kn0 : 0 ≤ (lastS (layS (next W.segs) D h tell (l.map entText))).number := by rw [layS_num gS]; exact gn0
    have kn1 : (lastS (layS (next W.segs) D h tell (l.map entText))).number < 100 := by rw [layS_num gS]; exact gn1
    repeat' (first | (refine cl (lay_tr w d m W.hard ev v3 pv (next W.segs) D hD h hh tell (l.map entText) hps (by rw [List.length_map]; exact hl) gS gl gn0 gn1 gz0 gz1 hq) ?_; rintro r Γ' ⟨rfl, rfl⟩; refine n4 ?_) | (refine cl (still_tr w d m W.hard ev v3 sv (layS (next W.segs) D h tell (l.map entText)) (layD (next W.segs) D h tell (l.map entText)) (layD_ok hD _ _ _ _) kS kl kn0 kn1) ?_; rintro r Γ' ⟨hr, rfl⟩; refine n4 ?_; rcases ite_or hr with ⟨hk, rfl⟩ | ⟨hk, rfl⟩) | refine sro rfl rfl ?_ | refine mv ?_ | refine asn ?_ | refine jn ?_ | refine nl ?_ | refine ld rfl ?_ | refine nc ?_ | refine f0 ?_ | refine sq ?_ | refine rg ?_ | refine lnb ?_ | refine lls rfl ?_ | refine ad ?_ | refine sb ?_ | refine lss ?_ | refine eql ?_ | refine neq ?_ | refine gtr ?_ | refine geq ?_ | refine p1 ?_ | refine p0 ?_ | refine sk2 ?_ | refine kp ?_ | refine ct ?_ | refine cf ?_ | (refine cd (fun hc => ?_) (fun hc => ?_) <;> try (exfalso; omega)) | (refine cn (fun hc => ?_) (fun hc => ?_) <;> try (exfalso; omega)) | refine bl ?_ | refine ib ?_ | refine xt ?_ | refine bx (fun b_ => ?_) | refine al (fun b_ => ?_) | refine sr rfl ?_ | refine la rfl ?_ | refine ixa rfl rfl ?_ | refine fe ?_ | refine lde rfl ?_ | refine lae rfl ?_ | refine fa ?_ | refine bld ?_ | refine seq ?_ | refine sne ?_ | refine cc ?_ | refine af_ ?_ | (refine gd (fun hc => ?_) (fun hc => ?_) <;> try (exfalso; omega)) | (refine gn (fun hc => ?_) (fun hc => ?_) <;> try (exfalso; omega)) | refine aw ?_ | refine sw ?_ | refine aeq ?_ | refine ane ?_ | refine cb (fun hc => ?_) (fun hc => ?_) | refine gs (fun hc => ?_) (fun hc => ?_) | refine J_draw (id := 11) [(0, true, []), (1, true, []), (2, true, []), (3, true, []), (4, true, []), (5, true, []), (6, true, []), (7, true, []), (8, true, []), (9, true, []), (10, true, [])] (by kernel_rfl) ?_ | refine J_draw2 (id := 16) [(0, true, []), (1, true, []), (3, true, []), (4, true, []), (5, true, []), (6, true, []), (2, false, [0, 3, 4, 5, 6]), (7, false, [0, 1]), (8, false, [0]), (9, true, []), (10, true, []), (11, false, [])] [(0, true, []), (1, true, []), (3, true, []), (4, true, []), (5, true, []), (6, true, []), (7, false, [0, 1]), (2, false, [0, 3, 4, 5, 6]), (8, false, [0]), (9, true, []), (10, true, []), (11, false, [])] (by kernel_rfl) ?_ ?_ | refine J_draw (id := 17) [(0, true, []), (1, true, []), (2, true, []), (3, true, []), (4, true, []), (5, true, []), (6, true, []), (7, true, []), (8, true, []), (9, false, []), (10, true, [])] (by kernel_rfl) ?_ | refine JS_cons rfl rfl (RO_move rfl) ?_ | refine JS_cons rfl rfl (RO_nilCheck rfl) ?_ | refine JS_cons rfl rfl (RO_fieldAddr0 rfl) ?_ | refine JS_cons rfl rfl (RO_load rfl (by rfl)) ?_ | refine JS_off rfl ?_ | refine JS_cons rfl rfl (RO_fieldAddr rfl) ?_ | refine JS_cons rfl rfl (RO_lnb rfl) ?_ | refine JS_cons rfl rfl (RO_lls rfl) ?_ | refine JS_cons rfl rfl (RO_add_in rfl rfl (by omega)) ?_ | refine JS_cons rfl rfl (RO_sub_in rfl rfl (by omega)) ?_ | refine JS_cons rfl rfl (RO_ixa rfl rfl (by omega)) ?_ | refine JS_cons rfl rfl (RO_fe rfl) ?_ | refine JS_cons rfl rfl (RO_lde rfl (by omega) rfl) ?_ | refine JS_offu rfl ?_ | refine JS_cons rfl rfl (RO_cc rfl rfl (by omega)) ?_ | refine JS_cons rfl rfl (RO_bld rfl (by (repeat (first | exact FillS.nil | (apply FillS.cons; rfl; rfl; constructor; rfl; (focus repeat constructor)))))) ?_ | refine JS_cons rfl rfl (RO_lae rfl (by omega) (by repeat constructor)) ?_ | refine JS_cons rfl rfl (RO_loadAgg rfl (by repeat constructor)) ?_ | fail)
    all_goals first
      | (have hE : layE (next W.segs) D h tell (l.map entText) ≠ 0 := (by assumption)
         have e : W.save D h l = (layE (next W.segs) D h tell (l.map entText), { W with segs := there (layD (next W.segs) D h tell (l.map entText)) W.segs (layS (next W.segs) D h tell (l.map entText)) }, layD (next W.segs) D h tell (l.map entText)) := (by
           unfold LogS.save
           rw [if_neg hc1, if_neg hne, hbg, ← htell, if_pos hE, if_pos hm])
         rw [e]
         first | rw [show there (layD (next W.segs) D h tell (l.map entText)) W.segs (layS (next W.segs) D h tell (l.map entText)) = layS (next W.segs) D h tell (l.map entText) from if_pos hk] | rw [show there (layD (next W.segs) D h tell (l.map entText)) W.segs (layS (next W.segs) D h tell (l.map entText)) = W.segs from if_neg hk]
         refine rt ?_
         exact ⟨_, ⟨_, _, rfl, rfl⟩, _, by repeat constructor⟩)
      | skip
    all_goals
      have hE : layE (next W.segs) D h tell (l.map entText) = 0 := by assumption
      have e : W.save D h l = (0, puts ({ W with hard := h, segs := layS (next W.segs) D h tell (l.map entText) } : LogS) l, layD (next W.segs) D h tell (l.map entText)) := by
        unfold LogS.save
        rw [if_neg hc1, if_neg hne, hbg, ← htell, if_neg (by rw [hE]; decide)]
      rw [e]
      refine lp (α := Nat × Int × Value × LogS) (fun y => [(0, .pointer (some ⟨w, 0, none⟩)), (110, lv), (111, .int .i64 l.length), (112, .int .i64 y.2.1)]) (fun y => [blk w (lcell d y.2.2.2.hard y.2.2.1 v3), sl 70 entE lv l, sl 70 entE y.2.2.1 y.2.2.2.ents, sl 94 segE v3 y.2.2.2.segs, blk d (dcell m (layD (next W.segs) D h tell (l.map entText))), mp fmap m (layD (next W.segs) D h tell (l.map entText)).files]) (fun y => y.2.1 = (y.1 : Int) ∧ y.1 ≤ l.length ∧ y.2.2.2 = puts ({ W with hard := h, segs := layS (next W.segs) D h tell (l.map entText) } : LogS) (l.take y.1) ∧ PutOk ({ W with hard := h, segs := layS (next W.segs) D h tell (l.map entText) } : LogS) y.2.2.2 y.1) (fun y => l.length - y.1) (0, 0, ev, ({ W with hard := h, segs := layS (next W.segs) D h tell (l.map entText) } : LogS)) ?_ ⟨rfl, Nat.zero_le _, rfl, ⟨hR, Nat.le_refl _, rfl, rfl⟩⟩
      clear again hgd hXg
      rintro ⟨j, n, ev1, V⟩ ⟨hn, hj, hV, hP⟩ again
      dsimp only at hn hj hV hP again ⊢
      subst hn
      have q1 := hP.rise
      have q2 : V.ents.length ≤ 1000000 := by
        have := hP.len
        have e1 : (({ W with hard := h, segs := layS (next W.segs) D h tell (l.map entText) } : LogS)).ents.length = W.ents.length := rfl
        omega
      have q3 : V.segs ≠ [] := ne_of_len hP.slen kS
      have q4 : V.segs.length ≤ 100000 := by rw [hP.slen]; exact kl
      have q5 : j < l.length → (l.getD j .none).In ∧ 0 < (l.getD j .none).index := fun hj => by
        rw [getD_of hj]; exact ⟨(hli _ (List.getElem_mem hj)).1, hpos _ (List.getElem_mem hj)⟩
      repeat' (first | (refine cl (put_tr w d V.hard ev1 v3 V.ents V.segs (l.getD j .none) (q5 (by omega)).1 (q5 (by omega)).2 q1 q3 q4 q2) ?_; rintro r Γ' ⟨ev2, rfl⟩; refine n3 ?_) | refine mv ?_ | refine asn ?_ | refine jn ?_ | refine nl ?_ | refine ld rfl ?_ | refine nc ?_ | refine f0 ?_ | refine sq ?_ | refine rg ?_ | refine lnb ?_ | refine lls rfl ?_ | refine ad ?_ | refine sb ?_ | refine lss ?_ | refine eql ?_ | refine neq ?_ | refine gtr ?_ | refine geq ?_ | refine p1 ?_ | refine p0 ?_ | refine sk2 ?_ | refine kp ?_ | refine ct ?_ | refine cf ?_ | (refine cd (fun hc => ?_) (fun hc => ?_) <;> try (exfalso; omega)) | (refine cn (fun hc => ?_) (fun hc => ?_) <;> try (exfalso; omega)) | refine bl ?_ | refine ib ?_ | refine xt ?_ | refine bx (fun b_ => ?_) | refine al (fun b_ => ?_) | refine sr rfl ?_ | refine la rfl ?_ | refine ixa rfl rfl ?_ | refine fe ?_ | refine lde rfl ?_ | refine lae rfl ?_ | refine fa ?_ | refine bld ?_ | refine seq ?_ | refine sne ?_ | refine cc ?_ | refine af_ ?_ | (refine gd (fun hc => ?_) (fun hc => ?_) <;> try (exfalso; omega)) | (refine gn (fun hc => ?_) (fun hc => ?_) <;> try (exfalso; omega)) | refine aw ?_ | refine sw ?_ | refine aeq ?_ | refine ane ?_ | refine cb (fun hc => ?_) (fun hc => ?_) | refine gs (fun hc => ?_) (fun hc => ?_) | refine J_draw (id := 11) [(0, true, []), (1, true, []), (2, true, []), (3, true, []), (4, true, []), (5, true, []), (6, true, []), (7, true, []), (8, true, []), (9, true, []), (10, true, [])] (by kernel_rfl) ?_ | refine J_draw2 (id := 16) [(0, true, []), (1, true, []), (3, true, []), (4, true, []), (5, true, []), (6, true, []), (2, false, [0, 3, 4, 5, 6]), (7, false, [0, 1]), (8, false, [0]), (9, true, []), (10, true, []), (11, false, [])] [(0, true, []), (1, true, []), (3, true, []), (4, true, []), (5, true, []), (6, true, []), (7, false, [0, 1]), (2, false, [0, 3, 4, 5, 6]), (8, false, [0]), (9, true, []), (10, true, []), (11, false, [])] (by kernel_rfl) ?_ ?_ | refine J_draw (id := 17) [(0, true, []), (1, true, []), (2, true, []), (3, true, []), (4, true, []), (5, true, []), (6, true, []), (7, true, []), (8, true, []), (9, false, []), (10, true, [])] (by kernel_rfl) ?_ | refine JS_cons rfl rfl (RO_move rfl) ?_ | refine JS_cons rfl rfl (RO_nilCheck rfl) ?_ | refine JS_cons rfl rfl (RO_fieldAddr0 rfl) ?_ | refine JS_cons rfl rfl (RO_load rfl (by rfl)) ?_ | refine JS_off rfl ?_ | refine JS_cons rfl rfl (RO_fieldAddr rfl) ?_ | refine JS_cons rfl rfl (RO_lnb rfl) ?_ | refine JS_cons rfl rfl (RO_lls rfl) ?_ | refine JS_cons rfl rfl (RO_add_in rfl rfl (by omega)) ?_ | refine JS_cons rfl rfl (RO_sub_in rfl rfl (by omega)) ?_ | refine JS_cons rfl rfl (RO_ixa rfl rfl (by omega)) ?_ | refine JS_cons rfl rfl (RO_fe rfl) ?_ | refine JS_cons rfl rfl (RO_lde rfl (by omega) rfl) ?_ | refine JS_offu rfl ?_ | refine JS_cons rfl rfl (RO_cc rfl rfl (by omega)) ?_ | refine JS_cons rfl rfl (RO_bld rfl (by (repeat (first | exact FillS.nil | (apply FillS.cons; rfl; rfl; constructor; rfl; (focus repeat constructor)))))) ?_ | refine JS_cons rfl rfl (RO_lae rfl (by omega) (by repeat constructor)) ?_ | refine JS_cons rfl rfl (RO_loadAgg rfl (by repeat constructor)) ?_ | fail)
      all_goals first
        | (have hj' : j < l.length := (by omega)
           exact ag (again (j + 1, (j : Int) + 1, ev2, V.put (l.getD j .none)) ⟨(by dsimp only; omega), hj', (by dsimp only; rw [hV, puts_take hj']), hP.put (q5 hj').1 (q5 hj').2⟩ (by dsimp only; omega)))
        | (have hjl : j = l.length := (by omega)
           rw [hjl, List.take_length] at hV
           subst hV
           refine rt ?_
           exact ⟨_, ⟨_, _, rfl, rfl⟩, _, by repeat constructor⟩)
theorem save_tr (w d m : Nat) (lv : Value) (W : LogS) (ev sv : Value) (D : DiskS) (hD : D.Ok) (h : Hrd) (hh : h.In) (l : List Ent) (hl : l.length ≤ 100) (hli : ∀ e ∈ l, e.In ∧ e.data.length ≤ 60000)
    (hS : W.segs ≠ []) (hSl : W.segs.length ≤ 1000) (hn0 : 0 ≤ (lastS W.segs).number) (hn1 : (lastS W.segs).number < 99) (hz0 : 0 ≤ (lastS W.segs).size) (hz1 : (lastS W.segs).size ≤ 100000000) (hR : Rise W.ents) (hLl : W.ents.length ≤ 100000) :
    Tr Tryz.prog 31 [.pointer (some ⟨w, 0, none⟩), hrdV h, lv] [sl 70 entE lv l, blk w (lcell d W.hard ev sv), sl 70 entE ev W.ents, sl 94 segE sv W.segs, blk d (dcell m D), mp fmap m D.files]
      fun v Γ => ∃ ev' sv', v = .int .i64 (W.save D h l).1 ∧ Γ = [blk w (lcell d (W.save D h l).2.1.hard ev' sv'), sl 70 entE ev' (W.save D h l).2.1.ents, sl 94 segE sv' (W.save D h l).2.1.segs, blk d (dcell m (W.save D h l).2.2), mp fmap m (W.save D h l).2.2.files] := by
  by_cases hb : h.term < 0 ∨ h.vote < 0 ∨ (l.any fun e => !e.right) = true
  · have e : W.save D h l = (1, W, D) := by unfold LogS.save; rw [if_pos hb]
    rw [e]
    exact (save_arg w d m lv W ev sv D h l hl hb).post fun v Γ ⟨h1, h2⟩ B F w hS => ⟨Γ, ⟨ev, sv, h1, h2⟩, hS⟩
  · have h0 : 0 ≤ h.term := by omega
    have h1 : 0 ≤ h.vote := by omega
    have hany : (l.any fun e => !e.right) = false := by
      cases hx : (l.any fun e => !e.right)
      · rfl
      · exact absurd (.inr (.inr hx)) hb
    by_cases hm : more W.segs
    · exact save_more w d m lv W ev sv D hD h hh l hl hli h0 h1 hany hS hSl hn0 hn1 hz0 hz1 hR hLl hm
    · exact save_same w d m lv W ev sv D hD h hh l hl hli h0 h1 hany hS hSl hn0 hn1 hz0 hz1 hR hLl hm
end Go.Proofs.YtaeefjcbmkiiaaaGreatDoor
/- The law's helpers: what of a raw number is meant; acts, their entries and hard states; are entries the same. -/
namespace Go.Proofs.YtaeefjcbmkiiaaaGreatDoor
open Go Sl
attribute [local irreducible] J JR JS RO CR Arr Sat Tr sat blk
set_option linter.unusedVariables false
set_option maxHeartbeats 2000000
set_option maxRecDepth 4000
def pickI (c n : Int) : Int := (if c < 0 then -(c + 1) else c) % n
theorem pickI_lt (c : Int) {n : Int} (h : 0 < n) : 0 ≤ pickI c n ∧ pickI c n < n := ⟨Int.emod_nonneg _ (by omega), Int.emod_lt_of_pos _ h⟩
theorem pick_tr (c n : Int) (hc : I64 c) (hn : 0 < n) : Tr Tryz.prog 11 [.int .i64 c, .int .i64 n] [] fun v Γ => v = .int .i64 (pickI c n) ∧ Γ = [] := by
  have hc1 := hc.1
  have hc2 := hc.2
  have hneg : c < 0 → IntKind.i64.wrap (0 - (c + 1)) = -(c + 1) := fun h => by
    rw [show 0 - (c + 1) = -(c + 1) by omega]; exact wrap_in (by omega) (by omega)
  have hr1 : c < 0 → (-(c + 1)).tmod n = pickI c n := fun h => by
    unfold pickI; rw [if_pos h, Int.tmod_eq_emod_of_nonneg (by omega)]
  have hr2 : ¬ c < 0 → c.tmod n = pickI c n := fun h => by
    unfold pickI; rw [if_neg h, Int.tmod_eq_emod_of_nonneg (by omega)]
  refine Tr_of_J Tryz.func11 follows rfl Tryz.ntmps11 (by simp) fun B F => ?_
  by_cases h : c < 0
  · repeat' (first | refine ngr ?_ (hneg h) | refine rem ?_ (hr1 h) | refine mv ?_ | refine asn ?_ | refine jn ?_ | refine nl ?_ | refine sq ?_ | refine rg ?_ | refine ad ?_ | refine lss ?_ | refine kp ?_ | refine ct ?_ | refine cf ?_ | (refine cd (fun hc => ?_) (fun hc => ?_) <;> try (exfalso; omega)) | (refine cn (fun hc => ?_) (fun hc => ?_) <;> try (exfalso; omega)) | refine bl ?_ | refine ib ?_ | refine xt ?_ | refine cc ?_ | refine af_ ?_ | refine aw ?_ | refine ng ?_ | refine cb (fun hc => ?_) (fun hc => ?_) | fail)
    refine rt ?_
    exact ⟨_, ⟨rfl, rfl⟩, _, by repeat constructor⟩
  · repeat' (first | refine rem ?_ (hr2 h) | refine mv ?_ | refine asn ?_ | refine jn ?_ | refine nl ?_ | refine sq ?_ | refine rg ?_ | refine ad ?_ | refine lss ?_ | refine kp ?_ | refine ct ?_ | refine cf ?_ | (refine cd (fun hc => ?_) (fun hc => ?_) <;> try (exfalso; omega)) | (refine cn (fun hc => ?_) (fun hc => ?_) <;> try (exfalso; omega)) | refine bl ?_ | refine ib ?_ | refine xt ?_ | refine cc ?_ | refine af_ ?_ | refine aw ?_ | refine ng ?_ | refine cb (fun hc => ?_) (fun hc => ?_) | fail)
    refine rt ?_
    exact ⟨_, ⟨rfl, rfl⟩, _, by repeat constructor⟩
theorem entry_tr (i t : Int) (s : List UInt8) : Tr Tryz.prog 32 [.int .i64 i, .int .i64 t, vs s] [] fun v Γ => v = entV ⟨i, t, 2, s⟩ ∧ Γ = [] := by
  refine Tr_of_J Tryz.func32 follows rfl Tryz.ntmps32 (by simp) fun B F => ?_
  repeat' (first | refine mv ?_ | refine jn ?_ | refine nl ?_ | refine sq ?_ | refine rg ?_ | refine kp ?_ | refine ct ?_ | refine cf ?_ | (refine cd (fun hc => ?_) (fun hc => ?_) <;> try (exfalso; omega)) | (refine cn (fun hc => ?_) (fun hc => ?_) <;> try (exfalso; omega)) | refine bl ?_ | refine ib ?_ | refine xt ?_ | refine al (fun b_ => ?_) | refine sr rfl ?_ | refine bld ?_ | refine cb (fun hc => ?_) (fun hc => ?_) | fail)
  refine rt ?_ rfl (.agg rfl (by repeat constructor) (by repeat constructor))
  exact ⟨_, ⟨rfl, rfl⟩, _, by repeat constructor⟩
/-- What is done. -/
structure Act where
  op : Int
  term : Int
  vote : Int
  idx : Int
  n : Int
  data : List UInt8
  kq : Option Addr
  kn : Nat
  km : Nat
  nq : Option Addr
  nn : Nat
  nm : Nat
def actE : EncT Act where
  enc a := [.int .i64 a.op, .int .i64 a.term, .int .i64 a.vote, .int .i64 a.idx, .int .i64 a.n, vs a.data, .slice a.kq a.kn a.km, .slice a.nq a.nn a.nm]
  dec := fun l => match l with | [.int _ a, .int _ b, .int _ c, .int _ d, .int _ e, .string s, .slice q n m, .slice q' n' m'] => ⟨a, b, c, d, e, s.data.toList, q, n, m, q', n', m'⟩ | _ => ⟨0, 0, 0, 0, 0, [], none, 0, 0, none, 0, 0⟩
  sz := 8
  dflt := ⟨0, 0, 0, 0, 0, [], none, 0, 0, none, 0, 0⟩
  len _ := rfl
  ok _ := rfl
  pos := by decide
abbrev actV (a : Act) : Value := .agg ⟨[.int .i64 a.op, .int .i64 a.term, .int .i64 a.vote, .int .i64 a.idx, .int .i64 a.n, vs a.data, .slice a.kq a.kn a.km, .slice a.nq a.nn a.nm]⟩
structure Act.In (a : Act) : Prop where
  o : I64 a.op
  t : I64 a.term
  v : I64 a.vote
  i : I64 a.idx
  n : I64 a.n
def hardOf (a : Act) : Hrd := if a.term.tmod 41 = 0 ∧ a.term ≠ 0 then ⟨a.term, a.vote⟩ else ⟨pickI a.term 20, pickI a.vote 4⟩
def entOf (a : Act) (i : Nat) : Ent := if a.idx.tmod 37 = 0 ∧ a.idx ≠ 0 then ⟨a.idx, pickI a.term 20, a.n, a.data⟩ else ⟨1 + pickI a.idx 30 + i, pickI a.term 20, 2, a.data⟩
def entriesOf (a : Act) : List Ent := (List.range (pickI a.n 5).toNat).map (entOf a)
theorem hardOf_tr (a : Act) (ha : a.In) : Tr Tryz.prog 24 [actV a] [] fun v Γ => v = hrdV (hardOf a) ∧ Γ = [] := by
  refine Tr_of_J Tryz.func24 follows rfl Tryz.ntmps24 (by simp) fun B F => ?_
  repeat' (first | refine rem ?_ | (refine cle rfl (pick_tr a.term 20 ha.t (by decide)) ?_; rintro r Γ' ⟨rfl, rfl⟩; refine n0 ?_) | (refine cle rfl (pick_tr a.vote 4 ha.v (by decide)) ?_; rintro r Γ' ⟨rfl, rfl⟩; refine n0 ?_) | refine mv ?_ | refine jn ?_ | refine nl ?_ | refine ld rfl ?_ | refine f0 ?_ | refine sq ?_ | refine rg ?_ | refine eql ?_ | refine neq ?_ | refine p1 ?_ | refine p0 ?_ | refine sk2 ?_ | refine kp ?_ | refine ct ?_ | refine cf ?_ | (refine cd (fun hc => ?_) (fun hc => ?_) <;> try (exfalso; omega)) | (refine cn (fun hc => ?_) (fun hc => ?_) <;> try (exfalso; omega)) | refine bl ?_ | refine ib ?_ | refine xt ?_ | refine bx (fun b_ => ?_) | refine al (fun b_ => ?_) | refine sr rfl ?_ | refine la rfl ?_ | refine fe ?_ | refine lde rfl ?_ | refine lae rfl ?_ | refine fa ?_ | refine bld ?_ | (refine gd (fun hc => ?_) (fun hc => ?_) <;> try (exfalso; omega)) | (refine gn (fun hc => ?_) (fun hc => ?_) <;> try (exfalso; omega)) | refine cb (fun hc => ?_) (fun hc => ?_) | refine gs (fun hc => ?_) (fun hc => ?_) | refine J_draw (id := 3) [(0, true, []), (1, true, []), (3, true, []), (4, true, []), (2, false, [3, 4]), (5, false, []), (6, true, []), (7, false, [])] (by kernel_rfl) ?_ | refine JS_cons rfl rfl (RO_move rfl) ?_ | refine JS_cons rfl rfl (RO_fieldAddr0 rfl) ?_ | refine JS_cons rfl rfl (RO_load rfl (by rfl)) ?_ | refine JS_off rfl ?_ | refine JS_cons rfl rfl (RO_fieldAddr rfl) ?_ | refine JS_cons rfl rfl (RO_fe rfl) ?_ | refine JS_cons rfl rfl (RO_lde rfl (by omega) rfl) ?_ | refine JS_offu rfl ?_ | refine JS_cons rfl rfl (RO_bld rfl (by (repeat (first | exact FillS.nil | (apply FillS.cons; rfl; rfl; constructor; rfl; (focus repeat constructor)))))) ?_ | refine JS_cons rfl rfl (RO_lae rfl (by omega) (by repeat constructor)) ?_ | refine JS_cons rfl rfl (RO_loadAgg rfl (by repeat constructor)) ?_ | fail)
  · rw [show hardOf a = ⟨a.term, a.vote⟩ from if_pos ⟨by assumption, by assumption⟩]
    refine rt ?_ rfl (.agg rfl (by repeat constructor) (by repeat constructor))
    exact ⟨_, ⟨rfl, rfl⟩, _, by repeat constructor⟩
  · rw [show hardOf a = ⟨pickI a.term 20, pickI a.vote 4⟩ from if_neg (by rintro ⟨_, h⟩; exact h (by assumption))]
    refine rt ?_ rfl (.agg rfl (by repeat constructor) (by repeat constructor))
    exact ⟨_, ⟨rfl, rfl⟩, _, by repeat constructor⟩
  · rw [show hardOf a = ⟨pickI a.term 20, pickI a.vote 4⟩ from if_neg (by rintro ⟨h, _⟩; exact absurd h (by assumption))]
    refine rt ?_ rfl (.agg rfl (by repeat constructor) (by repeat constructor))
    exact ⟨_, ⟨rfl, rfl⟩, _, by repeat constructor⟩
theorem eqE (a b : Ent) : eqCells [.int .i64 a.index, .int .i64 a.term, .int .i64 a.kind, vs a.data] [.int .i64 b.index, .int .i64 b.term, .int .i64 b.kind, vs b.data] = decide (a = b) := by
  obtain ⟨a1, a2, a3, a4⟩ := a
  obtain ⟨b1, b2, b3, b4⟩ := b
  simp only [eqCells, eqCell, Ent.mk.injEq, Bool.and_true]
  by_cases h1 : a1 = b1 <;> by_cases h2 : a2 = b2 <;> by_cases h3 : a3 = b3 <;> by_cases h4 : a4 = b4 <;> simp [h1, h2, h3, h4, bs_inj]
theorem sameEntries_tr (v1 v2 : Value) (L1 L2 : List Ent) (h1 : L1.length ≤ 1000000) (h2 : L2.length ≤ 1000000) : Tr Tryz.prog 18 [v1, v2] [sl 70 entE v1 L1, sl 70 entE v2 L2]
    fun v Γ => v = .bool (decide (L1 = L2)) ∧ Γ = [sl 70 entE v1 L1, sl 70 entE v2 L2] := by
  refine Tr_of_J Tryz.func18 follows rfl Tryz.ntmps18 (by simp) fun B F => ?_
  repeat' (first | refine mv ?_ | refine asn ?_ | refine jn ?_ | refine nl ?_ | refine ld rfl ?_ | refine sq ?_ | refine rg ?_ | refine lnb ?_ | refine lls rfl ?_ | refine ad ?_ | refine lss ?_ | refine neq ?_ | refine kp ?_ | refine ct ?_ | refine cf ?_ | (refine cd (fun hc => ?_) (fun hc => ?_) <;> try (exfalso; omega)) | (refine cn (fun hc => ?_) (fun hc => ?_) <;> try (exfalso; omega)) | refine bl ?_ | refine ib ?_ | refine xt ?_ | refine la rfl ?_ | refine ixa rfl rfl ?_ | refine lde rfl ?_ | refine lae rfl ?_ | refine sne ?_ | refine cc ?_ | refine af_ ?_ | refine aw ?_ | refine ane ?_ | refine cb (fun hc => ?_) (fun hc => ?_) | refine J_draw (id := 6) [(0, true, []), (1, true, []), (2, true, []), (3, true, []), (4, true, []), (5, true, []), (6, true, []), (7, true, []), (8, true, [])] (by kernel_rfl) ?_ | fail)
  · have h3 : ¬ L1 = L2 := by rintro rfl; exact absurd rfl (by assumption)
    rw [show decide (L1 = L2) = false from decide_eq_false h3]
    refine rt ?_
    exact ⟨_, ⟨rfl, rfl⟩, _, by repeat constructor⟩
  have hlen : L1.length = L2.length := by omega
  refine lp (α := Nat × Int) (fun y => [(0, v1), (1, v2), (5, .int .i64 y.2)]) (fun y => [sl 70 entE v1 L1, sl 70 entE v2 L2]) (fun y => y.2 = (y.1 : Int) ∧ y.1 ≤ L1.length ∧ L1.take y.1 = L2.take y.1) (fun y => L1.length - y.1) (0, 0) ?_ ⟨rfl, Nat.zero_le _, by simp⟩
  rintro ⟨i, n⟩ ⟨hn, hi, hr⟩ again
  dsimp only at hn hi hr again ⊢
  subst hn
  repeat' (first | refine mv ?_ | refine asn ?_ | refine jn ?_ | refine nl ?_ | refine ld rfl ?_ | refine sq ?_ | refine rg ?_ | refine lnb ?_ | refine lls rfl ?_ | refine ad ?_ | refine lss ?_ | refine neq ?_ | refine kp ?_ | refine ct ?_ | refine cf ?_ | (refine cd (fun hc => ?_) (fun hc => ?_) <;> try (exfalso; omega)) | (refine cn (fun hc => ?_) (fun hc => ?_) <;> try (exfalso; omega)) | refine bl ?_ | refine ib ?_ | refine xt ?_ | refine la rfl ?_ | refine ixa rfl rfl ?_ | refine lde rfl ?_ | refine lae rfl ?_ | refine sne ?_ | refine cc ?_ | refine af_ ?_ | refine aw ?_ | refine ane ?_ | refine cb (fun hc => ?_) (fun hc => ?_) | refine J_draw (id := 6) [(0, true, []), (1, true, []), (2, true, []), (3, true, []), (4, true, []), (5, true, []), (6, true, []), (7, true, []), (8, true, [])] (by kernel_rfl) ?_ | fail)
  · have hi' : i < L1.length := by omega
    have h3 : ¬ L1 = L2 := by
      rintro rfl
      have h5 := hc
      rw [eqE] at h5; simp at h5
    rw [show decide (L1 = L2) = false from decide_eq_false h3]
    refine rt ?_
    exact ⟨_, ⟨rfl, rfl⟩, _, by repeat constructor⟩
  · have hi' : i < L1.length := by omega
    have h5 := hc
    rw [eqE] at h5
    have h6 : L1.getD i .none = L2.getD i .none := by
      have h7 : decide (L1.getD (i : Int).toNat entE.dflt = L2.getD (i : Int).toNat entE.dflt) = true := by simpa only [Bool.not_eq_false', Bool.not_eq_eq_eq_not, Bool.not_false] using h5
      exact of_decide_eq_true h7
    exact ag (again (i + 1, (i : Int) + 1) ⟨by dsimp only; omega, hi', by
      dsimp only
      rw [List.take_succ_eq_append_getElem hi', List.take_succ_eq_append_getElem (by omega), hr, ← getD_of hi', ← getD_of (by omega), h6]⟩ (by dsimp only; omega))
  · have hil : i = L1.length := by omega
    have h3 : L1 = L2 := by
      rw [hil, List.take_length, hlen, List.take_length] at hr; exact hr
    rw [show decide (L1 = L2) = true from decide_eq_true h3]
    refine rt ?_
    exact ⟨_, ⟨rfl, rfl⟩, _, by repeat constructor⟩
theorem entOf_take (a : Act) {i : Nat} : (List.range (i + 1)).map (entOf a) = (List.range i).map (entOf a) ++ [entOf a i] := by rw [List.range_succ, List.map_append]; rfl
theorem entriesOf_tr (a : Act) (ha : a.In) (hd : a.data.length ≤ 1000000) : Tr Tryz.prog 23 [actV a] [] fun v Γ => Γ = [sl 70 entE v (entriesOf a)] := by
  have hp := pickI_lt a.n (n := 5) (by decide)
  have hp2 := pickI_lt a.idx (n := 30) (by decide)
  have hp3 := pickI_lt a.term (n := 20) (by decide)
  refine Tr_of_J Tryz.func23 follows rfl Tryz.ntmps23 (by simp) fun B F => ?_
  repeat' (first | refine mv ?_ | refine asn ?_ | refine jn ?_ | refine nl ?_ | refine ld rfl ?_ | refine f0 ?_ | refine sq ?_ | refine rg ?_ | refine ad ?_ | refine lss ?_ | refine eql ?_ | refine neq ?_ | refine p1 ?_ | refine p0 ?_ | refine sk2 ?_ | refine kp ?_ | refine ct ?_ | refine cf ?_ | (refine cd (fun hc => ?_) (fun hc => ?_) <;> try (exfalso; omega)) | (refine cn (fun hc => ?_) (fun hc => ?_) <;> try (exfalso; omega)) | refine bl ?_ | refine ib ?_ | refine xt ?_ | refine bx (fun b_ => ?_) | refine al (fun b_ => ?_) | refine sr rfl ?_ | refine la rfl ?_ | refine fe ?_ | refine lde rfl ?_ | refine lae rfl ?_ | refine fa ?_ | refine cc ?_ | refine af_ ?_ | (refine gd (fun hc => ?_) (fun hc => ?_) <;> try (exfalso; omega)) | (refine gn (fun hc => ?_) (fun hc => ?_) <;> try (exfalso; omega)) | refine aw ?_ | refine cb (fun hc => ?_) (fun hc => ?_) | refine gs (fun hc => ?_) (fun hc => ?_) | refine J_draw4 (id := 5) [(0, true, []), (1, true, []), (4, true, []), (6, true, []), (7, true, []), (9, true, []), (10, true, []), (2, false, [4, 6, 7, 9, 10]), (3, true, []), (5, true, []), (8, false, [4, 9, 10, 3, 5]), (11, false, []), (12, false, [0, 1, 4, 6, 7, 9, 10, 3, 5]), (13, false, [])] [(0, true, []), (1, true, []), (4, true, []), (6, true, []), (7, true, []), (9, true, []), (10, true, []), (2, false, [4, 6, 7, 9, 10]), (3, true, []), (5, true, []), (8, false, [4, 9, 10, 3, 5]), (12, false, [0, 1, 4, 6, 7, 9, 10, 3, 5]), (11, false, []), (13, false, [])] [(0, true, []), (1, true, []), (4, true, []), (6, true, []), (7, true, []), (9, true, []), (10, true, []), (2, false, [4, 6, 7, 9, 10]), (3, true, []), (5, true, []), (12, false, [0, 1, 4, 6, 7, 9, 10, 3, 5]), (8, false, [4, 9, 10, 3, 5]), (11, false, []), (13, false, [])] [(0, true, []), (1, true, []), (4, true, []), (6, true, []), (7, true, []), (9, true, []), (10, true, []), (12, false, [0, 1, 4, 6, 7, 9, 10]), (2, false, [4, 6, 7, 9, 10]), (3, true, []), (5, true, []), (8, false, [4, 9, 10, 3, 5]), (11, false, []), (13, false, [])] (by kernel_rfl) ?_ ?_ ?_ ?_ | refine JS_cons rfl rfl (RO_move rfl) ?_ | refine JS_cons rfl rfl (RO_fieldAddr0 rfl) ?_ | refine JS_cons rfl rfl (RO_load rfl (by rfl)) ?_ | refine JS_off rfl ?_ | refine JS_cons rfl rfl (RO_fieldAddr rfl) ?_ | refine JS_cons rfl rfl (RO_add_in rfl rfl (by omega)) ?_ | refine JS_cons rfl rfl (RO_fe rfl) ?_ | refine JS_cons rfl rfl (RO_lde rfl (by omega) rfl) ?_ | refine JS_offu rfl ?_ | refine JS_cons rfl rfl (RO_cc rfl rfl (by omega)) ?_ | refine JS_cons rfl rfl (RO_lae rfl (by omega) (by repeat constructor)) ?_ | refine JS_cons rfl rfl (RO_loadAgg rfl (by repeat constructor)) ?_ | fail)
  refine J_sat (Γ' := sl 70 entE (.slice none 0 0) [] :: _) ?_ fun w hS => sl_nil hS
  refine lp (α := Nat × Int × Value × List Ent) (fun y => [(1, .pointer (some ⟨b_, 0, none⟩)), (3, y.2.2.1), (4, .int .i64 y.2.1)]) (fun y => [sl 70 entE y.2.2.1 y.2.2.2, blk b_ (.cells ⟨[.int .i64 a.op, .int .i64 a.term, .int .i64 a.vote, .int .i64 a.idx, .int .i64 a.n, vs a.data, .slice a.kq a.kn a.km, .slice a.nq a.nn a.nm]⟩ 34 (0, 0))]) (fun y => y.2.1 = (y.1 : Int) ∧ (y.1 : Int) ≤ pickI a.n 5 ∧ y.2.2.2 = (List.range y.1).map (entOf a)) (fun y => (pickI a.n 5).toNat - y.1) (0, 0, .slice none 0 0, []) ?_ ⟨rfl, hp.1, rfl⟩
  by_cases hx : a.idx.tmod 37 = 0 ∧ a.idx ≠ 0
  · rintro ⟨i, n, v, X⟩ ⟨hn, hi, hX⟩ again
    dsimp only at hn hi hX again ⊢
    subst hn
    have hXl : X.length ≤ 5 := by rw [hX, List.length_map, List.length_range]; omega
    have hent : entOf a i = ⟨a.idx, pickI a.term 20, a.n, a.data⟩ := if_pos hx
    obtain ⟨hx1, hx2⟩ := hx
    repeat' (first | refine rem ?_ | (refine cle rfl (pick_tr a.n 5 ha.n (by decide)) ?_; rintro r Γ' ⟨rfl, rfl⟩; refine n0 ?_) | (refine cle rfl (pick_tr a.idx 30 ha.i (by decide)) ?_; rintro r Γ' ⟨rfl, rfl⟩; refine n0 ?_) | (refine cle rfl (pick_tr a.term 20 ha.t (by decide)) ?_; rintro r Γ' ⟨rfl, rfl⟩; refine n0 ?_) | (refine cle rfl (entry_tr (1 + pickI a.idx 30 + i) (pickI a.term 20) a.data) ?_; rintro r Γ' ⟨rfl, rfl⟩; refine n0 ?_) | refine bsl (e := entE) (X := [⟨a.idx, pickI a.term 20, a.n, a.data⟩]) (fun v2 => ?_) (.cona rfl rfl .nil) | refine apo rfl rfl (fun v3 => ?_) (by simp; omega) (by simp; omega) | refine mv ?_ | refine asn ?_ | refine jn ?_ | refine nl ?_ | refine ld rfl ?_ | refine f0 ?_ | refine sq ?_ | refine rg ?_ | refine ad ?_ | refine lss ?_ | refine eql ?_ | refine neq ?_ | refine p1 ?_ | refine p0 ?_ | refine sk2 ?_ | refine kp ?_ | refine ct ?_ | refine cf ?_ | (refine cd (fun hc => ?_) (fun hc => ?_) <;> try (exfalso; omega)) | (refine cn (fun hc => ?_) (fun hc => ?_) <;> try (exfalso; omega)) | refine bl ?_ | refine ib ?_ | refine xt ?_ | refine bx (fun b_ => ?_) | refine al (fun b_ => ?_) | refine sr rfl ?_ | refine la rfl ?_ | refine fe ?_ | refine lde rfl ?_ | refine lae rfl ?_ | refine fa ?_ | refine cc ?_ | refine af_ ?_ | (refine gd (fun hc => ?_) (fun hc => ?_) <;> try (exfalso; omega)) | (refine gn (fun hc => ?_) (fun hc => ?_) <;> try (exfalso; omega)) | refine aw ?_ | refine cb (fun hc => ?_) (fun hc => ?_) | refine gs (fun hc => ?_) (fun hc => ?_) | refine J_draw4 (id := 5) [(0, true, []), (1, true, []), (4, true, []), (6, true, []), (7, true, []), (9, true, []), (10, true, []), (2, false, [4, 6, 7, 9, 10]), (3, true, []), (5, true, []), (8, false, [4, 9, 10, 3, 5]), (11, false, []), (12, false, [0, 1, 4, 6, 7, 9, 10, 3, 5]), (13, false, [])] [(0, true, []), (1, true, []), (4, true, []), (6, true, []), (7, true, []), (9, true, []), (10, true, []), (2, false, [4, 6, 7, 9, 10]), (3, true, []), (5, true, []), (8, false, [4, 9, 10, 3, 5]), (12, false, [0, 1, 4, 6, 7, 9, 10, 3, 5]), (11, false, []), (13, false, [])] [(0, true, []), (1, true, []), (4, true, []), (6, true, []), (7, true, []), (9, true, []), (10, true, []), (2, false, [4, 6, 7, 9, 10]), (3, true, []), (5, true, []), (12, false, [0, 1, 4, 6, 7, 9, 10, 3, 5]), (8, false, [4, 9, 10, 3, 5]), (11, false, []), (13, false, [])] [(0, true, []), (1, true, []), (4, true, []), (6, true, []), (7, true, []), (9, true, []), (10, true, []), (12, false, [0, 1, 4, 6, 7, 9, 10]), (2, false, [4, 6, 7, 9, 10]), (3, true, []), (5, true, []), (8, false, [4, 9, 10, 3, 5]), (11, false, []), (13, false, [])] (by kernel_rfl) ?_ ?_ ?_ ?_ | refine JS_cons rfl rfl (RO_move rfl) ?_ | refine JS_cons rfl rfl (RO_fieldAddr0 rfl) ?_ | refine JS_cons rfl rfl (RO_load rfl (by rfl)) ?_ | refine JS_off rfl ?_ | refine JS_cons rfl rfl (RO_fieldAddr rfl) ?_ | refine JS_cons rfl rfl (RO_add_in rfl rfl (by omega)) ?_ | refine JS_cons rfl rfl (RO_fe rfl) ?_ | refine JS_cons rfl rfl (RO_lde rfl (by omega) rfl) ?_ | refine JS_offu rfl ?_ | refine JS_cons rfl rfl (RO_cc rfl rfl (by omega)) ?_ | refine JS_cons rfl rfl (RO_lae rfl (by omega) (by repeat constructor)) ?_ | refine JS_cons rfl rfl (RO_loadAgg rfl (by repeat constructor)) ?_ | fail)
    all_goals first
      | (have hi' : (i : Int) < pickI a.n 5 := (by assumption)
         exact ag (again (i + 1, (i : Int) + 1, v3, X ++ [⟨a.idx, pickI a.term 20, a.n, a.data⟩]) ⟨(by dsimp only; omega), (by dsimp only; omega), (by dsimp only; rw [hX, entOf_take, hent])⟩ (by dsimp only; omega)))
      | (have hil : i = (pickI a.n 5).toNat := (by omega)
         have hX2 : X = entriesOf a := (by rw [hX, hil]; rfl)
         subst hX2
         refine rt ?_
         exact ⟨_, rfl, _, by repeat constructor⟩)
  · rintro ⟨i, n, v, X⟩ ⟨hn, hi, hX⟩ again
    dsimp only at hn hi hX again ⊢
    subst hn
    have hXl : X.length ≤ 5 := by rw [hX, List.length_map, List.length_range]; omega
    have hent : entOf a i = ⟨1 + pickI a.idx 30 + i, pickI a.term 20, 2, a.data⟩ := if_neg hx
    repeat' (first | refine rem ?_ | (refine cle rfl (pick_tr a.n 5 ha.n (by decide)) ?_; rintro r Γ' ⟨rfl, rfl⟩; refine n0 ?_) | (refine cle rfl (pick_tr a.idx 30 ha.i (by decide)) ?_; rintro r Γ' ⟨rfl, rfl⟩; refine n0 ?_) | (refine cle rfl (pick_tr a.term 20 ha.t (by decide)) ?_; rintro r Γ' ⟨rfl, rfl⟩; refine n0 ?_) | (refine cle rfl (entry_tr (1 + pickI a.idx 30 + i) (pickI a.term 20) a.data) ?_; rintro r Γ' ⟨rfl, rfl⟩; refine n0 ?_) | refine bsl (e := entE) (X := [⟨1 + pickI a.idx 30 + i, pickI a.term 20, 2, a.data⟩]) (fun v2 => ?_) (.cona rfl rfl .nil) | refine apo rfl rfl (fun v3 => ?_) (by simp; omega) (by simp; omega) | refine mv ?_ | refine asn ?_ | refine jn ?_ | refine nl ?_ | refine ld rfl ?_ | refine f0 ?_ | refine sq ?_ | refine rg ?_ | refine ad ?_ | refine lss ?_ | refine eql ?_ | refine neq ?_ | refine p1 ?_ | refine p0 ?_ | refine sk2 ?_ | refine kp ?_ | refine ct ?_ | refine cf ?_ | (refine cd (fun hc => ?_) (fun hc => ?_) <;> try (exfalso; omega)) | (refine cn (fun hc => ?_) (fun hc => ?_) <;> try (exfalso; omega)) | refine bl ?_ | refine ib ?_ | refine xt ?_ | refine bx (fun b_ => ?_) | refine al (fun b_ => ?_) | refine sr rfl ?_ | refine la rfl ?_ | refine fe ?_ | refine lde rfl ?_ | refine lae rfl ?_ | refine fa ?_ | refine cc ?_ | refine af_ ?_ | (refine gd (fun hc => ?_) (fun hc => ?_) <;> try (exfalso; omega)) | (refine gn (fun hc => ?_) (fun hc => ?_) <;> try (exfalso; omega)) | refine aw ?_ | refine cb (fun hc => ?_) (fun hc => ?_) | refine gs (fun hc => ?_) (fun hc => ?_) | refine J_draw4 (id := 5) [(0, true, []), (1, true, []), (4, true, []), (6, true, []), (7, true, []), (9, true, []), (10, true, []), (2, false, [4, 6, 7, 9, 10]), (3, true, []), (5, true, []), (8, false, [4, 9, 10, 3, 5]), (11, false, []), (12, false, [0, 1, 4, 6, 7, 9, 10, 3, 5]), (13, false, [])] [(0, true, []), (1, true, []), (4, true, []), (6, true, []), (7, true, []), (9, true, []), (10, true, []), (2, false, [4, 6, 7, 9, 10]), (3, true, []), (5, true, []), (8, false, [4, 9, 10, 3, 5]), (12, false, [0, 1, 4, 6, 7, 9, 10, 3, 5]), (11, false, []), (13, false, [])] [(0, true, []), (1, true, []), (4, true, []), (6, true, []), (7, true, []), (9, true, []), (10, true, []), (2, false, [4, 6, 7, 9, 10]), (3, true, []), (5, true, []), (12, false, [0, 1, 4, 6, 7, 9, 10, 3, 5]), (8, false, [4, 9, 10, 3, 5]), (11, false, []), (13, false, [])] [(0, true, []), (1, true, []), (4, true, []), (6, true, []), (7, true, []), (9, true, []), (10, true, []), (12, false, [0, 1, 4, 6, 7, 9, 10]), (2, false, [4, 6, 7, 9, 10]), (3, true, []), (5, true, []), (8, false, [4, 9, 10, 3, 5]), (11, false, []), (13, false, [])] (by kernel_rfl) ?_ ?_ ?_ ?_ | refine JS_cons rfl rfl (RO_move rfl) ?_ | refine JS_cons rfl rfl (RO_fieldAddr0 rfl) ?_ | refine JS_cons rfl rfl (RO_load rfl (by rfl)) ?_ | refine JS_off rfl ?_ | refine JS_cons rfl rfl (RO_fieldAddr rfl) ?_ | refine JS_cons rfl rfl (RO_add_in rfl rfl (by omega)) ?_ | refine JS_cons rfl rfl (RO_fe rfl) ?_ | refine JS_cons rfl rfl (RO_lde rfl (by omega) rfl) ?_ | refine JS_offu rfl ?_ | refine JS_cons rfl rfl (RO_cc rfl rfl (by omega)) ?_ | refine JS_cons rfl rfl (RO_lae rfl (by omega) (by repeat constructor)) ?_ | refine JS_cons rfl rfl (RO_loadAgg rfl (by repeat constructor)) ?_ | fail)
    all_goals first
      | (have hi' : (i : Int) < pickI a.n 5 := (by assumption)
         exact ag (again (i + 1, (i : Int) + 1, v3, X ++ [⟨1 + pickI a.idx 30 + i, pickI a.term 20, 2, a.data⟩]) ⟨(by dsimp only; omega), (by dsimp only; omega), (by dsimp only; rw [hX, entOf_take, hent])⟩ (by dsimp only; omega)))
      | (have hil : i = (pickI a.n 5).toNat := (by omega)
         have hX2 : X = entriesOf a := (by rw [hX, hil]; rfl)
         subst hX2
         refine rt ?_
         exact ⟨_, rfl, _, by repeat constructor⟩)
end Go.Proofs.YtaeefjcbmkiiaaaGreatDoor
/- The law: an act that saves or resets; are there not too many acts. -/
namespace Go.Proofs.YtaeefjcbmkiiaaaGreatDoor
open Go Sl
attribute [local irreducible] J JR JS RO CR Arr Sat Tr sat blk
set_option linter.unusedVariables false
set_option maxHeartbeats 1000000
set_option maxRecDepth 4000
section
open Go.RowKit
variable {c : Ctx} {k : List Item} {st : St} {ops : Array Oper} {rs : List Oper} {l : List Stp}
theorem n5 {A B C D E : Assn} {R : List Assn} (h : JS c ops rs l k st (A :: B :: C :: D :: E :: R)) : JS c ops rs l k st ([A, B, C, D, E] ++ R) := h
theorem n6 {A B C D E F : Assn} {R : List Assn} (h : JS c ops rs l k st (A :: B :: C :: D :: E :: F :: R)) : JS c ops rs l k st ([A, B, C, D, E, F] ++ R) := h
end
/-- A world's own block. -/
abbrev wcell (d w : Nat) : Obj := .cells ⟨[.pointer (some ⟨d, 0, none⟩), .pointer (some ⟨w, 0, none⟩)]⟩ 38 (0, 0)
def actOf (W : LogS) (D : DiskS) (a : Act) : Int × LogS × DiskS := if pickI a.op 10 = 6 then W.reset D else W.save D (hardOf a) (entriesOf a)
theorem pickI_64 (c : Int) {n : Int} (h : 0 < n) (h2 : n ≤ 1000000) : I64 (pickI c n) := by
  have := pickI_lt c h
  unfold I64; omega
theorem hardOf_in {a : Act} (ha : a.In) : (hardOf a).In := by
  unfold hardOf; split
  · exact ⟨ha.t, ha.v⟩
  · exact ⟨pickI_64 _ (by decide) (by decide), pickI_64 _ (by decide) (by decide)⟩
theorem entriesOf_in {a : Act} (ha : a.In) : ∀ e ∈ entriesOf a, e.In ∧ goodI e.index ∧ e.data = a.data := by
  intro e he
  unfold entriesOf at he
  obtain ⟨i, hi, rfl⟩ := List.mem_map.1 he
  rw [List.mem_range] at hi
  have h5 := pickI_lt a.n (n := 5) (by decide)
  have h30 := pickI_lt a.idx (n := 30) (by decide)
  unfold entOf; split
  · rename_i h
    refine ⟨⟨ha.i, pickI_64 _ (by decide) (by decide), ha.n⟩, .inr ?_, rfl⟩
    have hd : (37 : Int) ∣ a.idx := Int.dvd_of_tmod_eq_zero h.1
    exact Int.emod_eq_zero_of_dvd hd
  · refine ⟨⟨?_, pickI_64 _ (by decide) (by decide), by show I64 2; decide⟩, .inl ?_, rfl⟩
    · show I64 (1 + pickI a.idx 30 + i); unfold I64; omega
    · show 1 + pickI a.idx 30 + i ≤ 33; omega
theorem entriesOf_len (a : Act) : (entriesOf a).length ≤ 5 := by
  have h5 := pickI_lt a.n (n := 5) (by decide)
  unfold entriesOf; rw [List.length_map, List.length_range]; omega
theorem actOf_live {W : LogS} {D : DiskS} {n : Nat} (hW : Live W D n) {a : Act} (ha : a.In) : Live (actOf W D a).2.1 (actOf W D a).2.2 (n + 5) ∧ (actOf W D a).2.2.most = D.most := by
  unfold actOf; split
  · have := reset_any hW
    exact ⟨{ this.1 with len := by have := this.1.len; omega }, this.2⟩
  · have := save_any hW (hardOf a) (hardOf_in ha) (entriesOf a) fun e he => ⟨(entriesOf_in ha e he).1, (entriesOf_in ha e he).2.1⟩
    have hl := entriesOf_len a
    exact ⟨{ this.1 with len := by have := this.1.len; omega }, this.2⟩
/-- What is asked of a log that is saved. -/
structure SegOk (W : LogS) : Prop where
  ne : W.segs ≠ []
  cnt : W.segs.length ≤ 1000
  n0 : 0 ≤ (lastS W.segs).number
  n1 : (lastS W.segs).number < 99
  z0 : 0 ≤ (lastS W.segs).size
  z1 : (lastS W.segs).size ≤ 100000000
theorem Live.seg {W : LogS} {D : DiskS} {n : Nat} (h : Live W D n) : SegOk W := by
  have h1 := h.sd.num_le _ (lastS_mem h.sd.ne)
  have h2 := h.sd.sizes _ (lastS_mem h.sd.ne)
  have h3 := h.sd.ok.m1
  have h4 := h.sd.cnt
  exact ⟨h.sd.ne, by omega, by omega, by omega, h2.1, by omega⟩
theorem act_tr (b w d m : Nat) (W : LogS) (ev sv : Value) (D : DiskS) (n : Nat) (hW : Live W D n) (hn : n ≤ 1000) (a : Act) (ha : a.In) (hd : a.data.length ≤ 700) (ho : pickI a.op 10 < 7) :
    Tr Tryz.prog 12 [.pointer (some ⟨b, 0, none⟩), actV a] [blk b (wcell d w), blk w (lcell d W.hard ev sv), sl 70 entE ev W.ents, sl 94 segE sv W.segs, blk d (dcell m D), mp fmap m D.files]
      fun v Γ => ∃ ev' sv', v = .int .i64 (actOf W D a).1 ∧ Γ = [blk b (wcell d w), blk w (lcell d (actOf W D a).2.1.hard ev' sv'), sl 70 entE ev' (actOf W D a).2.1.ents, sl 94 segE sv' (actOf W D a).2.1.segs, blk d (dcell m (actOf W D a).2.2), mp fmap m (actOf W D a).2.2.files] := by
  have hs := hW.seg
  have hl := entriesOf_len a
  have hle := hW.len
  have hli : ∀ e ∈ entriesOf a, e.In ∧ e.data.length ≤ 60000 := fun e he => by
    have := entriesOf_in ha e he
    exact ⟨this.1, by rw [this.2.2]; omega⟩
  refine Tr_of_J Tryz.func12 follows rfl Tryz.ntmps12 (by simp) fun B F => ?_
  repeat' (first | (refine cle rfl (pick_tr a.op 10 ha.o (by decide)) ?_; rintro r Γ' ⟨rfl, rfl⟩; refine n0 ?_) | (refine cle rfl (reset_tr w d m W ev sv D hW.sd.ok hW.hin hs.ne (by have := hs.cnt; omega) hs.n0 (by have := hs.n1; omega) hs.z0 hs.z1) ?_; rintro r Γ' ⟨ev2, rfl, rfl⟩; refine n5 ?_) | (refine cle rfl (hardOf_tr a ha) ?_; rintro r Γ' ⟨rfl, rfl⟩; refine n0 ?_) | (refine cle rfl (entriesOf_tr a ha (by omega)) ?_; rintro lv Γ' rfl; refine n1 ?_) | (refine cle rfl (save_tr w d m lv W ev sv D hW.sd.ok (hardOf a) (hardOf_in ha) (entriesOf a) (by omega) hli hs.ne hs.cnt hs.n0 hs.n1 hs.z0 hs.z1 hW.rise (by omega)) ?_; rintro r Γ' ⟨ev2, sv2, rfl, rfl⟩; refine n5 ?_) | refine mv ?_ | refine asn ?_ | refine jn ?_ | refine nl ?_ | refine ld rfl ?_ | refine nc ?_ | refine f0 ?_ | refine xt2 ?_ | refine sq ?_ | refine rg ?_ | refine eql ?_ | refine pnn ?_ | refine p1 ?_ | refine p0 ?_ | refine sk2 ?_ | refine kp ?_ | refine ct ?_ | refine cf ?_ | (refine cd (fun hc => ?_) (fun hc => ?_) <;> try (exfalso; omega)) | (refine cn (fun hc => ?_) (fun hc => ?_) <;> try (exfalso; omega)) | refine bl ?_ | refine ib ?_ | refine xt ?_ | refine bx (fun b_ => ?_) | refine sr rfl ?_ | refine la rfl ?_ | refine fe ?_ | refine lde rfl ?_ | refine lae rfl ?_ | refine fa ?_ | refine seq ?_ | refine af_ ?_ | (refine gd (fun hc => ?_) (fun hc => ?_) <;> try (exfalso; omega)) | (refine gn (fun hc => ?_) (fun hc => ?_) <;> try (exfalso; omega)) | refine pns ?_ | refine aeq ?_ | refine cb (fun hc => ?_) (fun hc => ?_) | refine gs (fun hc => ?_) (fun hc => ?_) | refine J_draw (id := 5) [(0, true, []), (1, true, []), (2, true, []), (3, true, []), (4, true, []), (5, true, []), (6, false, []), (7, true, [])] (by kernel_rfl) ?_ | refine J_draw (id := 7) [(0, true, []), (1, true, []), (2, true, []), (3, true, []), (4, true, []), (5, true, []), (6, false, [0, 1, 2, 3]), (7, false, [])] (by kernel_rfl) ?_ | refine J_draw (id := 10) [(0, true, []), (1, true, []), (2, true, []), (3, true, []), (4, true, []), (5, true, []), (6, true, []), (7, true, []), (8, false, [])] (by kernel_rfl) ?_ | refine J_draw (id := 15) [(0, true, []), (1, true, []), (2, true, []), (3, true, []), (4, true, []), (6, true, []), (5, false, [0, 1, 2, 3, 6]), (7, false, [0, 1, 2, 3]), (8, false, []), (9, true, [])] (by kernel_rfl) ?_ | refine JS_cons rfl rfl (RO_move rfl) ?_ | refine JS_cons rfl rfl (RO_nilCheck rfl) ?_ | refine JS_cons rfl rfl (RO_fieldAddr0 rfl) ?_ | refine JS_cons rfl rfl (RO_load rfl (by rfl)) ?_ | refine JS_off rfl ?_ | refine JS_cons rfl rfl (RO_extract rfl rfl) ?_ | refine JS_cons rfl rfl (RO_fieldAddr rfl) ?_ | refine JS_cons rfl rfl (RO_fe rfl) ?_ | refine JS_cons rfl rfl (RO_lde rfl (by omega) rfl) ?_ | refine JS_offu rfl ?_ | refine JS_cons rfl rfl (RO_lae rfl (by omega) (by repeat constructor)) ?_ | refine JS_cons rfl rfl (RO_loadAgg rfl (by repeat constructor)) ?_ | fail)
  · rw [show actOf W D a = W.reset D from if_pos (by assumption)]
    refine rt ?_
    exact ⟨_, ⟨_, _, rfl, rfl⟩, _, by repeat constructor⟩
  · rw [show actOf W D a = W.save D (hardOf a) (entriesOf a) from if_neg (by assumption)]
    refine rt ?_
    exact ⟨_, ⟨_, _, rfl, rfl⟩, _, by repeat constructor⟩
end Go.Proofs.YtaeefjcbmkiiaaaGreatDoor
/- The law: are there not too many acts, and none too long. -/
namespace Go.Proofs.YtaeefjcbmkiiaaaGreatDoor
open Go Sl
attribute [local irreducible] J JR JS RO CR Arr Sat Tr sat blk
set_option linter.unusedVariables false
set_option maxHeartbeats 1000000
set_option maxRecDepth 4000
def isSmall (l : List Act) : Prop := l.length ≤ 40 ∧ ∀ a ∈ l, a.data.length ≤ 700
theorem actGetD {l : List Act} {i : Nat} (h : i < l.length) : l.getD i actE.dflt = l[i] := by rw [List.getD_eq_getElem?_getD, List.getElem?_eq_getElem h]; rfl
theorem small_tr (lv : Value) (l : List Act) (hl : l.length ≤ 9223372036854775807) : Tr Tryz.prog 9 [lv] [rsl actE lv l]
    fun v Γ => (∃ b : Bool, v = .bool b ∧ (b = true → isSmall l)) ∧ Γ = [rsl actE lv l] := by
  refine Tr_of_J Tryz.func9 follows rfl Tryz.ntmps9 (by simp) fun B F => ?_
  repeat' (first | refine mv ?_ | refine asn ?_ | refine jn ?_ | refine nl ?_ | refine ld rfl ?_ | refine f0 ?_ | refine sq ?_ | refine rg ?_ | refine lnb ?_ | refine lls rfl ?_ | refine ad ?_ | refine lss ?_ | refine gtr ?_ | refine p1 ?_ | refine p0 ?_ | refine sk2 ?_ | refine kp ?_ | refine ct ?_ | refine cf ?_ | (refine cd (fun hc => ?_) (fun hc => ?_) <;> try (exfalso; omega)) | (refine cn (fun hc => ?_) (fun hc => ?_) <;> try (exfalso; omega)) | refine bl ?_ | refine ib ?_ | refine xt ?_ | refine la rfl ?_ | refine ixa rfl rfl ?_ | refine fe ?_ | refine lde rfl ?_ | refine lae rfl ?_ | refine fa ?_ | refine cc ?_ | refine af_ ?_ | (refine gd (fun hc => ?_) (fun hc => ?_) <;> try (exfalso; omega)) | (refine gn (fun hc => ?_) (fun hc => ?_) <;> try (exfalso; omega)) | refine aw ?_ | refine cb (fun hc => ?_) (fun hc => ?_) | refine gs (fun hc => ?_) (fun hc => ?_) | fail)
  · refine rt ?_
    exact ⟨_, ⟨⟨false, rfl, fun h => by cases h⟩, rfl⟩, _, by repeat constructor⟩
  have h40 : l.length ≤ 40 := by omega
  refine lp (α := Nat × Int) (fun y => [(0, lv), (3, .int .i64 y.2)]) (fun y => [rsl actE lv l]) (fun y => y.2 = (y.1 : Int) ∧ y.1 ≤ l.length ∧ ∀ a ∈ l.take y.1, a.data.length ≤ 700) (fun y => l.length - y.1) (0, 0) ?_ ⟨rfl, Nat.zero_le _, fun a ha => by simp at ha⟩
  rintro ⟨i, n⟩ ⟨hn, hi, hr⟩ again
  dsimp only at hn hi hr again ⊢
  subst hn
  repeat' (first | refine ll ?_ | refine mv ?_ | refine asn ?_ | refine jn ?_ | refine nl ?_ | refine ld rfl ?_ | refine f0 ?_ | refine sq ?_ | refine rg ?_ | refine lnb ?_ | refine lls rfl ?_ | refine ad ?_ | refine lss ?_ | refine gtr ?_ | refine p1 ?_ | refine p0 ?_ | refine sk2 ?_ | refine kp ?_ | refine ct ?_ | refine cf ?_ | (refine cd (fun hc => ?_) (fun hc => ?_) <;> try (exfalso; omega)) | (refine cn (fun hc => ?_) (fun hc => ?_) <;> try (exfalso; omega)) | refine bl ?_ | refine ib ?_ | refine xt ?_ | refine la rfl ?_ | refine ixa rfl rfl ?_ | refine fe ?_ | refine lde rfl ?_ | refine lae rfl ?_ | refine fa ?_ | refine cc ?_ | refine af_ ?_ | (refine gd (fun hc => ?_) (fun hc => ?_) <;> try (exfalso; omega)) | (refine gn (fun hc => ?_) (fun hc => ?_) <;> try (exfalso; omega)) | refine aw ?_ | refine cb (fun hc => ?_) (fun hc => ?_) | refine gs (fun hc => ?_) (fun hc => ?_) | fail)
  all_goals first
    | (refine rt ?_
       exact ⟨_, ⟨⟨false, rfl, fun h => by cases h⟩, rfl⟩, _, by repeat constructor⟩)
    | skip
  · have hi' : i < l.length := by omega
    have hda : (l.getD i actE.dflt).data.length ≤ 700 := by
      have h1 : ¬ (700 : Int) < ((l.getD (i : Int).toNat actE.dflt).data.length : Int) := by assumption
      have h2 : (l.getD (i : Int).toNat actE.dflt) = l.getD i actE.dflt := rfl
      rw [h2] at h1; omega
    exact ag (again (i + 1, (i : Int) + 1) ⟨by dsimp only; omega, hi', by
      intro a ha
      dsimp only at ha
      rw [List.take_succ_eq_append_getElem hi'] at ha
      rcases List.mem_append.1 ha with ha | ha
      · exact hr a ha
      · rw [List.mem_singleton.1 ha, ← actGetD hi']; exact hda⟩ (by dsimp only; omega))
  · have hil : i = l.length := by omega
    rw [hil, List.take_length] at hr
    refine rt ?_
    exact ⟨_, ⟨⟨true, rfl, fun _ => ⟨h40, hr⟩⟩, rfl⟩, _, by repeat constructor⟩
end Go.Proofs.YtaeefjcbmkiiaaaGreatDoor
/- A log that is begun, and chapter 3's examples: plain. -/
namespace Go.Proofs.YtaeefjcbmkiiaaaGreatDoor
open Go Sl
set_option linter.unusedVariables false
theorem told_len (S : List Seg) {h : Hrd} (hh : h.In) (tell : Bool) (ps : List (List UInt8)) : (layT S h tell ps).length ≤ 38 + (frames ps).length := by
  have := hardText_len hh
  unfold layT told
  split
  · simp only [frames, List.flatMap_cons, List.length_append, frame_length]; omega
  · omega
theorem ents_len {l : List Ent} {n : Nat} (hn : n ≤ 60000) (h : ∀ e ∈ l, e.In ∧ e.data.length ≤ n) : (frames (l.map entText)).length ≤ l.length * (58 + n) := by
  induction l with
  | nil => simp [frames]
  | cons e l ih =>
    have h1 := ih fun x hx => h x (List.mem_cons_of_mem _ hx)
    have h2 := h e (List.mem_cons_self ..)
    have h3 := entText_len h2.1 (by omega)
    simp only [List.map_cons, frames, List.flatMap_cons, List.length_append, frame_length, List.length_cons] at h1 ⊢
    rw [Nat.succ_mul]; omega
/-- The disk and the log of a log that is begun. -/
def disk0 (most : Int) : DiskS := layD [⟨1, 0, 0⟩] (DiskS.new most) ⟨0, 0⟩ true []
def log0 (most : Int) : LogS := ⟨⟨0, 0⟩, [], layS [⟨1, 0, 0⟩] (DiskS.new most) ⟨0, 0⟩ true []⟩
theorem hrd0 : (⟨0, 0⟩ : Hrd).In := ⟨by decide, by decide⟩
theorem open_live {most : Int} (h0 : 100 ≤ most) (h1 : most ≤ 10000000) :
    layE [⟨1, 0, 0⟩] (DiskS.new most) ⟨0, 0⟩ true [] = 0 ∧ Live (log0 most) (disk0 most) 0 ∧ DiskS.total (disk0 most).files ≤ 38 ∧ (disk0 most).most = most ∧ (log0 most).segs = [⟨1, (layT [⟨1, 0, 0⟩] ⟨0, 0⟩ true []).length, 0⟩] := by
  have hlen : (layT [⟨1, 0, 0⟩] ⟨0, 0⟩ true []).length ≤ 38 := by have := told_len [⟨1, 0, 0⟩] hrd0 true []; simpa [frames] using this
  have hok0 : (DiskS.new most).Ok := DiskS.Ok.new (by omega) h1
  have hlast : lastS [⟨1, 0, 0⟩] = ⟨1, 0, 0⟩ := rfl
  have hk : okName (segFile ⟨1, 0, 0⟩) = true := segName_ok (by decide)
  generalize hT : layT [⟨1, 0, 0⟩] ⟨0, 0⟩ true [] = T at hlen ⊢
  have happ : (DiskS.new most).append (segFile ⟨1, 0, 0⟩) T = (0, { DiskS.new most with files := [(segFile ⟨1, 0, 0⟩, ⟨T, 0⟩)] }) := by
    have := app_new (D := DiskS.new most) rfl rfl (k := segFile ⟨1, 0, 0⟩) (by simp [DiskS.new]) hk (by simp [DiskS.new]) T
    rw [this, if_neg]
    · rfl
    · show ¬ most < ((0 : Nat) : Int) + T.length; omega
  have hA : layA [⟨1, 0, 0⟩] (DiskS.new most) ⟨0, 0⟩ true [] = (0, { DiskS.new most with files := [(segFile ⟨1, 0, 0⟩, ⟨T, 0⟩)] }) := by unfold layA; rw [hlast, hT, happ]
  have hsync := sync_end (D := { DiskS.new most with files := [(segFile ⟨1, 0, 0⟩, ⟨T, 0⟩)] }) rfl rfl (B := []) (k := segFile ⟨1, 0, 0⟩) (f := ⟨T, 0⟩) rfl (by simp)
  have hD : disk0 most = { DiskS.new most with files := [(segFile ⟨1, 0, 0⟩, ⟨T, T.length⟩)] } := by
    unfold disk0 layD; rw [hA, hlast]; simp only [ne_eq, not_true, if_false]; rw [hsync]; rfl
  have hS : layS [⟨1, 0, 0⟩] (DiskS.new most) ⟨0, 0⟩ true [] = [⟨1, T.length, 0⟩] := by
    unfold layS; rw [hA]; simp only [ne_eq, not_true, if_false]
    unfold grown setLast; rw [hT, hlast]; simp
  refine ⟨?_, ?_, ?_, ?_, hS⟩
  · unfold layE; rw [hA, hlast]; simp only [ne_eq, not_true, if_false]; rw [hsync]
  · have hok := (hok0.append (segFile ⟨1, 0, 0⟩) T).sync (segFile ⟨1, 0, 0⟩)
    rw [happ, hsync] at hok
    refine { sd := ?_, rise := ⟨fun i hi => absurd hi (by simp [log0]), fun x hx => by simp [log0] at hx, fun x hx => by simp [log0] at hx⟩, good := fun x hx => by simp [log0] at hx, len := Nat.le_refl _, hin := hrd0, h0 := ⟨Int.le_refl _, Int.le_refl _⟩ }
    show SD (layS _ _ _ _ _) _
    rw [hS, hD]
    exact { ok := hok, dead := rfl, fuse := rfl, ne := by simp, cnt := by simp, num := fun i s hs => by
              cases i with
              | zero => simp at hs; subst hs; rfl
              | succ i => simp at hs
            files := by simp [segFile] }
  · rw [hD]; simp [DiskS.total]; omega
  · rw [hD]; rfl
/-! ### the examples -/
def ex1 : Ent := ⟨1, 1, 2, [97]⟩
def ex2 : Ent := ⟨2, 1, 2, [98]⟩
def ex3 : Ent := ⟨2, 1, 2, [99]⟩
def ex7 : Ent := ⟨7, 2, 2, [120]⟩
def exH : Hrd := ⟨1, 2⟩
theorem exH_in : exH.In := ⟨by decide, by decide⟩
theorem ex_in {l : List Ent} (h : l = [ex1, ex2] ∨ l = [ex3] ∨ l = [ex7]) : (∀ e ∈ l, e.In ∧ goodI e.index) ∧ (∀ e ∈ l, e.right = true) ∧ l ≠ [] ∧ ∀ e ∈ l, e.In ∧ e.data.length ≤ 1 := by
  have hi : ex1.In ∧ ex2.In ∧ ex3.In ∧ ex7.In := ⟨⟨by decide, by decide, by decide⟩, ⟨by decide, by decide, by decide⟩, ⟨by decide, by decide, by decide⟩, ⟨by decide, by decide, by decide⟩⟩
  have hg : goodI ex1.index ∧ goodI ex2.index ∧ goodI ex3.index ∧ goodI ex7.index := by unfold goodI; decide
  rcases h with rfl | rfl | rfl
  · refine ⟨?_, ?_, by simp, ?_⟩ <;> intro e he <;> simp only [List.mem_cons, List.not_mem_nil, or_false] at he <;> rcases he with rfl | rfl <;> first | exact ⟨hi.1, hg.1⟩ | exact ⟨hi.2.1, hg.2.1⟩ | decide | exact ⟨hi.1, by decide⟩ | exact ⟨hi.2.1, by decide⟩
  · refine ⟨?_, ?_, by simp, ?_⟩ <;> intro e he <;> simp only [List.mem_cons, List.not_mem_nil, or_false] at he <;> subst he <;> first | exact ⟨hi.2.2.1, hg.2.2.1⟩ | decide | exact ⟨hi.2.2.1, by decide⟩
  · refine ⟨?_, ?_, by simp, ?_⟩ <;> intro e he <;> simp only [List.mem_cons, List.not_mem_nil, or_false] at he <;> subst he <;> first | exact ⟨hi.2.2.2, hg.2.2.2⟩ | decide | exact ⟨hi.2.2.2, by decide⟩
/-- A save for which there is room. -/
theorem save_fits {W : LogS} {D : DiskS} {n : Nat} (hW : Live W D n) (h : Hrd) (hh : h.In) (h0 : 0 ≤ h.term ∧ 0 ≤ h.vote) (l : List Ent) (hl : ∀ e ∈ l, e.In ∧ goodI e.index) (hr : ∀ e ∈ l, e.right = true) (hn : l ≠ []) (hd : ∀ e ∈ l, e.In ∧ e.data.length ≤ 1) (hf : (DiskS.total D.files : Int) + 38 + l.length * 59 ≤ D.most) :
    (W.save D h l).1 = 0 ∧ Live (W.save D h l).2.1 (W.save D h l).2.2 (n + l.length) ∧ (W.save D h l).2.1.ents = l.foldl putE W.ents ∧ (W.save D h l).2.1.hard = h ∧ DiskS.total (W.save D h l).2.2.files ≤ DiskS.total D.files + 38 + l.length * 59 ∧ (W.save D h l).2.2.most = D.most := by
  have h1 := told_len (begun W.segs) hh (decide (h ≠ W.hard)) (l.map entText)
  have h2 := ents_len (n := 1) (by decide) hd
  rcases save_live hW h hh h0 l hl hr hn with ⟨_, _, c⟩ | ⟨a, b, c, d, e, _, f⟩
  · exfalso; omega
  · exact ⟨a, b, c, d, by omega, f⟩
theorem reset_fits {W : LogS} {D : DiskS} {n : Nat} (hW : Live W D n) (hf : (DiskS.total D.files : Int) + 56 ≤ D.most) : (W.reset D).1 = 0 ∧ (W.reset D).2.1.ents = [] := by
  have h1 := told_len W.segs hW.hin false [resetText]
  have h2 := resetText_len
  have h3 : (frames [resetText]).length = 8 + resetText.length := by simp [frames, frame_length]
  unfold LogS.reset
  rcases lay_live hW.sd (.inl rfl) W.hard false [resetText] with ⟨a, b, c, d⟩ | ⟨a, b, c, d, e⟩
  · exfalso; omega
  · rw [a, if_neg (by decide)]; exact ⟨rfl, rfl⟩
/-- The examples' worlds, one behind another. -/
abbrev xw (n : Nat) : LogS × DiskS := match n with
  | 0 => (log0 10000, disk0 10000)
  | 1 => ((log0 10000).save (disk0 10000) exH [ex1, ex2]).2
  | 2 => (((log0 10000).save (disk0 10000) exH [ex1, ex2]).2.1.save ((log0 10000).save (disk0 10000) exH [ex1, ex2]).2.2 exH [ex3]).2
  | _ => ((((log0 10000).save (disk0 10000) exH [ex1, ex2]).2.1.save ((log0 10000).save (disk0 10000) exH [ex1, ex2]).2.2 exH [ex3]).2.1.save (((log0 10000).save (disk0 10000) exH [ex1, ex2]).2.1.save ((log0 10000).save (disk0 10000) exH [ex1, ex2]).2.2 exH [ex3]).2.2 exH [ex7]).2
end Go.Proofs.YtaeefjcbmkiiaaaGreatDoor
