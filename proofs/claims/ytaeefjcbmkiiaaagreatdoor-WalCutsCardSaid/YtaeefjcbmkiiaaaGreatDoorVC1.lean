/- The law WalAgain, walked: opened anew, a log is what it was. -/
import Derived.Test.YtaeefjcbmkiiaaaGreatDoorVX6
set_option linter.unusedVariables false
set_option linter.unusedSimpArgs false
namespace Go.Proofs.YtaeefjcbmkiiaaaGreatDoor
open Go Sl
attribute [local irreducible] J JR JS RO CR Arr Sat Tr sat blk
set_option linter.unusedVariables false
set_option linter.unusedSimpArgs false
set_option maxHeartbeats 2000000
set_option maxRecDepth 4000
theorem walAgain_tr (lv : Value) (l : List Act) (hl : l.length ≤ 9223372036854775807) (hin : ∀ a ∈ l, a.In) :
    Tr Tryz.prog 6 [lv] [rsl actE lv l] fun v Γ => v = .bool true ∧ Γ = [] := by
  refine Tr_of_J Tryz.func6 follows rfl Tryz.ntmps6 (by simp) fun B F => ?_
  repeat' (first | (refine cle rfl shown_tr ?_; rintro v Γ' ⟨rfl, rfl⟩; refine n0 ?_) | (refine cle rfl (small_tr lv l hl) ?_; rintro v Γ' ⟨⟨sm, rfl, hsm⟩, rfl⟩; refine n1 ?_) | (refine cle rfl (beginG_tr 100000 (by omega) (by omega)) ?_; rintro v Γ' ⟨b, w, d, m, p, sv, W, D, ⟨rfl, hF, hG⟩, rfl⟩; refine n6 ?_) | refine mv ?_ | refine asn ?_ | refine jn ?_ | refine nl ?_ | refine ld rfl ?_ | refine nc ?_ | refine f0 ?_ | refine xt2 ?_ | refine sq ?_ | refine rg ?_ | refine lnb ?_ | refine lls rfl ?_ | refine ad ?_ | refine lss ?_ | refine neq ?_ | refine nt ?_ | refine pen ?_ | refine p1 ?_ | refine p0 ?_ | refine sk2 ?_ | refine kp ?_ | refine ct ?_ | refine cf ?_ | (refine cd (fun hc => ?_) (fun hc => ?_) <;> try (exfalso; omega)) | (refine cn (fun hc => ?_) (fun hc => ?_) <;> try (exfalso; omega)) | refine bl ?_ | refine ib ?_ | refine xt ?_ | refine la rfl ?_ | refine ixa rfl rfl ?_ | refine fe ?_ | refine lde rfl ?_ | refine lae rfl ?_ | refine fa ?_ | refine sne ?_ | refine cc ?_ | refine af_ ?_ | (refine gd (fun hc => ?_) (fun hc => ?_) <;> try (exfalso; omega)) | (refine gn (fun hc => ?_) (fun hc => ?_) <;> try (exfalso; omega)) | refine aw ?_ | refine pes ?_ | refine ane ?_ | refine cb (fun hc => ?_) (fun hc => ?_) | refine gs (fun hc => ?_) (fun hc => ?_) | refine J_draw (id := 14) [(0, true, []), (1, true, []), (2, true, []), (3, true, []), (4, true, []), (5, true, []), (6, true, []), (7, true, []), (9, true, []), (10, true, []), (11, true, []), (12, true, []), (8, false, [9, 10, 11, 12]), (13, false, []), (14, true, []), (15, true, []), (16, true, []), (17, true, []), (19, true, []), (20, true, []), (21, true, []), (22, true, []), (18, false, [19, 20, 21, 22]), (23, false, []), (24, false, []), (25, true, []), (26, true, [])] (by kernel_rfl) ?_ | refine J_draw (id := 23) [(0, true, []), (1, true, []), (2, true, []), (3, true, []), (4, true, []), (5, true, []), (6, true, []), (7, true, []), (8, true, [])] (by kernel_rfl) ?_ | refine JS_cons rfl rfl (RO_move rfl) ?_ | refine JS_cons rfl rfl (RO_nilCheck rfl) ?_ | refine JS_cons rfl rfl (RO_fieldAddr0 rfl) ?_ | refine JS_cons rfl rfl (RO_load rfl (by rfl)) ?_ | refine JS_off rfl ?_ | refine JS_cons rfl rfl (RO_extract rfl rfl) ?_ | refine JS_cons rfl rfl (RO_not rfl) ?_ | refine JS_cons rfl rfl (RO_fieldAddr rfl) ?_ | refine JS_cons rfl rfl (RO_lnb rfl) ?_ | refine JS_cons rfl rfl (RO_lls rfl) ?_ | refine JS_cons rfl rfl (RO_add_in rfl rfl (by omega)) ?_ | refine JS_cons rfl rfl (RO_ixa rfl rfl (by omega)) ?_ | refine JS_cons rfl rfl (RO_fe rfl) ?_ | refine JS_cons rfl rfl (RO_lde rfl (by omega) rfl) ?_ | refine JS_offu rfl ?_ | refine JS_cons rfl rfl (RO_cc rfl rfl (by omega)) ?_ | refine JS_cons rfl rfl (RO_lae rfl (by omega) (by repeat constructor)) ?_ | refine JS_cons rfl rfl (RO_loadAgg rfl (by repeat constructor)) ?_ | fail)
  · refine rt ?_
    exact ⟨_, ⟨rfl, rfl⟩, _, by repeat constructor⟩
  have hsm' : sm = true := by
    have h1 : (!sm) = false := by assumption
    simpa using h1
  obtain ⟨h40, h700⟩ := hsm hsm'
  refine lp (α := Nat × Int × Value × Value × LogS × DiskS) (fun y => [(0, lv), (5, .pointer (some ⟨b, 0, none⟩)), (8, .int .i64 y.2.1)]) (fun y => [blk b (wcell d w), blk w (lcell d y.2.2.2.2.1.hard y.2.2.1 y.2.2.2.1), sl 70 entE y.2.2.1 y.2.2.2.2.1.ents, sl 94 segE y.2.2.2.1 y.2.2.2.2.1.segs, blk d (dcell m y.2.2.2.2.2), mp fmap m y.2.2.2.2.2.files, rsl actE lv l]) (fun y => y.2.1 = (y.1 : Int) ∧ y.1 ≤ l.length ∧ Live y.2.2.2.2.1 y.2.2.2.2.2 (5 * y.1) ∧ (∃ G, Kept y.2.2.2.2.1 y.2.2.2.2.2 G) ∧ y.2.2.2.2.2.most = 100000) (fun y => l.length - y.1) (0, 0, .slice none 0 0, sv, W, D) ?_ ⟨rfl, Nat.zero_le _, hF.live, hG, hF.mst⟩
  clear hF hG
  rintro ⟨i, n, ev, sv, W, D⟩ ⟨hn, hi, hW, ⟨G, hK⟩, hm⟩ again
  dsimp only at hn hi hW hK hm again ⊢
  subst hn
  have ha : i < l.length → (l.getD i actE.dflt).In ∧ (l.getD i actE.dflt).data.length ≤ 700 := fun h => by
    rw [actGetD h]; exact ⟨hin _ (List.getElem_mem h), h700 _ (List.getElem_mem h)⟩
  have hle := hW.len
  clear hsm hsm'
  repeat' (first | (refine cle rfl (pick_tr (l.getD i actE.dflt).op 10 (ha (by omega)).1.o (by decide)) ?_; rintro v Γ' ⟨rfl, rfl⟩; refine n0 ?_) | (refine cle rfl (act_tr b w d m W ev sv D _ hW (by omega) (l.getD i actE.dflt) (ha (by omega)).1 (ha (by omega)).2 (by assumption)) ?_; rintro v Γ' ⟨ev2, sv2, rfl, rfl⟩; refine n6 ?_) | (refine cle rfl (openK_tr d m W D hW.sd.ok hW.sd.dead (by omega) G hK.lays hW.sd.ne W.hard W.ents hK.fold) ?_; rintro v Γ' ⟨x, ev3, sv3, rfl, rfl⟩; refine n5 ?_) | refine mv ?_ | refine asn ?_ | refine jn ?_ | refine nl ?_ | refine ld rfl ?_ | refine nc ?_ | refine f0 ?_ | refine xt2 ?_ | refine sq ?_ | refine rg ?_ | refine lnb ?_ | refine lls rfl ?_ | refine ad ?_ | refine lss ?_ | refine neq ?_ | refine nt ?_ | refine pen ?_ | refine p1 ?_ | refine p0 ?_ | refine sk2 ?_ | refine kp ?_ | refine ct ?_ | refine cf ?_ | (refine cd (fun hc => ?_) (fun hc => ?_) <;> try (exfalso; omega)) | (refine cn (fun hc => ?_) (fun hc => ?_) <;> try (exfalso; omega)) | refine bl ?_ | refine ib ?_ | refine xt ?_ | refine la rfl ?_ | refine ixa rfl rfl ?_ | refine fe ?_ | refine lde rfl ?_ | refine lae rfl ?_ | refine fa ?_ | refine sne ?_ | refine cc ?_ | refine af_ ?_ | (refine gd (fun hc => ?_) (fun hc => ?_) <;> try (exfalso; omega)) | (refine gn (fun hc => ?_) (fun hc => ?_) <;> try (exfalso; omega)) | refine aw ?_ | refine pes ?_ | refine ane ?_ | refine cb (fun hc => ?_) (fun hc => ?_) | refine J_draw (id := 14) [(0, true, []), (1, true, []), (2, true, []), (3, true, []), (4, true, []), (5, true, []), (6, true, []), (7, true, []), (9, true, []), (10, true, []), (11, true, []), (12, true, []), (8, false, [9, 10, 11, 12]), (13, false, []), (14, true, []), (15, true, []), (16, true, []), (17, true, []), (19, true, []), (20, true, []), (21, true, []), (22, true, []), (18, false, [19, 20, 21, 22]), (23, false, []), (24, false, []), (25, true, []), (26, true, [])] (by kernel_rfl) ?_ | refine J_draw (id := 23) [(0, true, []), (1, true, []), (2, true, []), (3, true, []), (4, true, []), (5, true, []), (6, true, []), (7, true, []), (8, true, [])] (by kernel_rfl) ?_ | refine JS_cons rfl rfl (RO_move rfl) ?_ | refine JS_cons rfl rfl (RO_nilCheck rfl) ?_ | refine JS_cons rfl rfl (RO_fieldAddr0 rfl) ?_ | refine JS_cons rfl rfl (RO_load rfl (by rfl)) ?_ | refine JS_off rfl ?_ | refine JS_cons rfl rfl (RO_extract rfl rfl) ?_ | refine JS_cons rfl rfl (RO_not rfl) ?_ | refine JS_cons rfl rfl (RO_fieldAddr rfl) ?_ | refine JS_cons rfl rfl (RO_lnb rfl) ?_ | refine JS_cons rfl rfl (RO_lls rfl) ?_ | refine JS_cons rfl rfl (RO_add_in rfl rfl (by omega)) ?_ | refine JS_cons rfl rfl (RO_ixa rfl rfl (by omega)) ?_ | refine JS_cons rfl rfl (RO_fe rfl) ?_ | refine JS_cons rfl rfl (RO_lde rfl (by omega) rfl) ?_ | refine JS_offu rfl ?_ | refine JS_cons rfl rfl (RO_cc rfl rfl (by omega)) ?_ | refine JS_cons rfl rfl (RO_lae rfl (by omega) (by repeat constructor)) ?_ | refine JS_cons rfl rfl (RO_loadAgg rfl (by repeat constructor)) ?_ | fail)
  · have hi' : i < l.length := by omega
    refine ag (again (i + 1, (i : Int) + 1, ev2, sv2, (actOf W D (l.getD i actE.dflt)).2.1, (actOf W D (l.getD i actE.dflt)).2.2) ⟨by dsimp only; omega, hi', (actOf_live hW (ha hi').1).1, actOf_kept hW hK (ha hi').1 (ha hi').2, ?_⟩ (by dsimp only; omega))
    exact (actOf_live hW (ha hi').1).2.trans hm
  · have hi' : i < l.length := by omega
    exact ag (again (i + 1, (i : Int) + 1, ev, sv, W, D) ⟨by dsimp only; omega, hi', hW.mono (by omega), ⟨G, hK⟩, hm⟩ (by dsimp only; omega))
  have hl2 : W.ents.length ≤ 1000000 := by omega
  have hsn : ∀ s ∈ W.segs, 0 ≤ s.number ∧ s.number < 100 := fun s hs => by have := hW.sd.num_le s hs; omega
  have hsc : W.segs.length ≤ 1000 := by have := hW.sd.cnt; omega
  clear again ha hin h700 hK hW
  repeat' (first | (refine cle rfl (hard_tr x d W.hard ev3 sv3) ?_; rintro v Γ' ⟨rfl, rfl⟩; refine n1 ?_) | (refine cle rfl (hard_tr w d W.hard ev sv) ?_; rintro v Γ' ⟨rfl, rfl⟩; refine n1 ?_) | (refine cle rfl (entries_tr x d W.hard ev3 sv3 W.ents hl2) ?_; rintro v14 Γ' rfl; refine n3 ?_) | (refine cle rfl (entries_tr w d W.hard ev sv W.ents hl2) ?_; rintro v15 Γ' rfl; refine n3 ?_) | (refine cle rfl (sameEntries_tr v14 v15 W.ents W.ents hl2 hl2) ?_; rintro v Γ' ⟨rfl, rfl⟩; refine n2 ?_) | (refine cle rfl (segments_tr x d W.hard ev3 sv3 W.segs hsn hsc) ?_; rintro v16 Γ' rfl; refine n3 ?_) | (refine cle rfl (segments_tr w d W.hard ev sv W.segs hsn hsc) ?_; rintro v17 Γ' rfl; refine n3 ?_) | refine mv ?_ | refine asn ?_ | refine jn ?_ | refine nl ?_ | refine ld rfl ?_ | refine nc ?_ | refine f0 ?_ | refine xt2 ?_ | refine sq ?_ | refine rg ?_ | refine lnb ?_ | refine lls rfl ?_ | refine ad ?_ | refine lss ?_ | refine neq ?_ | refine nt ?_ | refine pen ?_ | refine p1 ?_ | refine p0 ?_ | refine sk2 ?_ | refine kp ?_ | refine ct ?_ | refine cf ?_ | (refine cd (fun hc => ?_) (fun hc => ?_) <;> try (exfalso; omega)) | (refine cn (fun hc => ?_) (fun hc => ?_) <;> try (exfalso; omega)) | refine bl ?_ | refine ib ?_ | refine xt ?_ | refine la rfl ?_ | refine ixa rfl rfl ?_ | refine fe ?_ | refine lde rfl ?_ | refine lae rfl ?_ | refine fa ?_ | refine sne ?_ | refine cc ?_ | refine af_ ?_ | (refine gd (fun hc => ?_) (fun hc => ?_) <;> try (exfalso; omega)) | (refine gn (fun hc => ?_) (fun hc => ?_) <;> try (exfalso; omega)) | refine aw ?_ | refine pes ?_ | refine ane ?_ | refine cb (fun hc => ?_) (fun hc => ?_) | refine gs (fun hc => ?_) (fun hc => ?_) | refine J_draw (id := 14) [(0, true, []), (1, true, []), (2, true, []), (3, true, []), (4, true, []), (5, true, []), (6, true, []), (7, true, []), (9, true, []), (10, true, []), (11, true, []), (12, true, []), (8, false, [9, 10, 11, 12]), (13, false, []), (14, true, []), (15, true, []), (16, true, []), (17, true, []), (19, true, []), (20, true, []), (21, true, []), (22, true, []), (18, false, [19, 20, 21, 22]), (23, false, []), (24, false, []), (25, true, []), (26, true, [])] (by kernel_rfl) ?_ | refine J_draw (id := 23) [(0, true, []), (1, true, []), (2, true, []), (3, true, []), (4, true, []), (5, true, []), (6, true, []), (7, true, []), (8, true, [])] (by kernel_rfl) ?_ | refine JS_cons rfl rfl (RO_move rfl) ?_ | refine JS_cons rfl rfl (RO_nilCheck rfl) ?_ | refine JS_cons rfl rfl (RO_fieldAddr0 rfl) ?_ | refine JS_cons rfl rfl (RO_load rfl (by rfl)) ?_ | refine JS_off rfl ?_ | refine JS_cons rfl rfl (RO_extract rfl rfl) ?_ | refine JS_cons rfl rfl (RO_not rfl) ?_ | refine JS_cons rfl rfl (RO_fieldAddr rfl) ?_ | refine JS_cons rfl rfl (RO_lnb rfl) ?_ | refine JS_cons rfl rfl (RO_lls rfl) ?_ | refine JS_cons rfl rfl (RO_add_in rfl rfl (by omega)) ?_ | refine JS_cons rfl rfl (RO_ixa rfl rfl (by omega)) ?_ | refine JS_cons rfl rfl (RO_fe rfl) ?_ | refine JS_cons rfl rfl (RO_lde rfl (by omega) rfl) ?_ | refine JS_offu rfl ?_ | refine JS_cons rfl rfl (RO_cc rfl rfl (by omega)) ?_ | refine JS_cons rfl rfl (RO_lae rfl (by omega) (by repeat constructor)) ?_ | refine JS_cons rfl rfl (RO_loadAgg rfl (by repeat constructor)) ?_ | fail)
  · rw [eqH] at hc; simp at hc
  · exact absurd rfl hc
  obtain ⟨N, hN⟩ : ∃ N, N = W.segs.map segFile := ⟨_, rfl⟩
  rw [← hN]
  have hNl : N.length ≤ 1000 := by rw [hN, List.length_map]; exact hsc
  refine lp (α := Nat) (fun y => [(11, v16), (12, v17), (13, .int .i64 y)]) (fun y => [sl 9 strE v17 N, sl 9 strE v16 N]) (fun y => y ≤ N.length) (fun y => N.length - y) 0 ?_ (Nat.zero_le _)
  rintro i hi again
  repeat' (first | refine mv ?_ | refine asn ?_ | refine jn ?_ | refine nl ?_ | refine ld rfl ?_ | refine nc ?_ | refine f0 ?_ | refine xt2 ?_ | refine sq ?_ | refine rg ?_ | refine lnb ?_ | refine lls rfl ?_ | refine ad ?_ | refine lss ?_ | refine neq ?_ | refine nt ?_ | refine pen ?_ | refine p1 ?_ | refine p0 ?_ | refine sk2 ?_ | refine kp ?_ | refine ct ?_ | refine cf ?_ | (refine cd (fun hc => ?_) (fun hc => ?_) <;> try (exfalso; omega)) | (refine cn (fun hc => ?_) (fun hc => ?_) <;> try (exfalso; omega)) | refine bl ?_ | refine ib ?_ | refine xt ?_ | refine la rfl ?_ | refine ixa rfl rfl ?_ | refine fe ?_ | refine lde rfl ?_ | refine lae rfl ?_ | refine fa ?_ | refine sne ?_ | refine cc ?_ | refine af_ ?_ | (refine gd (fun hc => ?_) (fun hc => ?_) <;> try (exfalso; omega)) | (refine gn (fun hc => ?_) (fun hc => ?_) <;> try (exfalso; omega)) | refine aw ?_ | refine pes ?_ | refine ane ?_ | refine cb (fun hc => ?_) (fun hc => ?_) | refine gs (fun hc => ?_) (fun hc => ?_) | refine J_draw (id := 14) [(0, true, []), (1, true, []), (2, true, []), (3, true, []), (4, true, []), (5, true, []), (6, true, []), (7, true, []), (9, true, []), (10, true, []), (11, true, []), (12, true, []), (8, false, [9, 10, 11, 12]), (13, false, []), (14, true, []), (15, true, []), (16, true, []), (17, true, []), (19, true, []), (20, true, []), (21, true, []), (22, true, []), (18, false, [19, 20, 21, 22]), (23, false, []), (24, false, []), (25, true, []), (26, true, [])] (by kernel_rfl) ?_ | refine J_draw (id := 23) [(0, true, []), (1, true, []), (2, true, []), (3, true, []), (4, true, []), (5, true, []), (6, true, []), (7, true, []), (8, true, [])] (by kernel_rfl) ?_ | refine JS_cons rfl rfl (RO_move rfl) ?_ | refine JS_cons rfl rfl (RO_nilCheck rfl) ?_ | refine JS_cons rfl rfl (RO_fieldAddr0 rfl) ?_ | refine JS_cons rfl rfl (RO_load rfl (by rfl)) ?_ | refine JS_off rfl ?_ | refine JS_cons rfl rfl (RO_extract rfl rfl) ?_ | refine JS_cons rfl rfl (RO_not rfl) ?_ | refine JS_cons rfl rfl (RO_fieldAddr rfl) ?_ | refine JS_cons rfl rfl (RO_lnb rfl) ?_ | refine JS_cons rfl rfl (RO_lls rfl) ?_ | refine JS_cons rfl rfl (RO_add_in rfl rfl (by omega)) ?_ | refine JS_cons rfl rfl (RO_ixa rfl rfl (by omega)) ?_ | refine JS_cons rfl rfl (RO_fe rfl) ?_ | refine JS_cons rfl rfl (RO_lde rfl (by omega) rfl) ?_ | refine JS_offu rfl ?_ | refine JS_cons rfl rfl (RO_cc rfl rfl (by omega)) ?_ | refine JS_cons rfl rfl (RO_lae rfl (by omega) (by repeat constructor)) ?_ | refine JS_cons rfl rfl (RO_loadAgg rfl (by repeat constructor)) ?_ | fail)
  · exact absurd rfl hc
  · have hi' : i < N.length := by omega
    exact ag (again (i + 1) hi' (by omega))
  · refine rt ?_
    exact ⟨_, ⟨rfl, rfl⟩, _, by repeat constructor⟩
end Go.Proofs.YtaeefjcbmkiiaaaGreatDoor
/- Cuts: plain. -/
namespace Go.Proofs.YtaeefjcbmkiiaaaGreatDoor
open Go Sl
set_option linter.unusedVariables false
set_option linter.unusedSimpArgs false
set_option maxHeartbeats 1000000
/-- Segments that nobody needs, deleted one by one: the error, the segments, the disk. -/
def cutGo (idx : Int) : List Seg → DiskS → Int × List Seg × DiskS
  | [], D => (0, [], D)
  | s :: l, D => if l ≠ [] ∧ 0 < (lastS (s :: l)).size ∧ s.top ≤ idx then (if (D.delete (segFile s)).1 ≠ 0 then ((D.delete (segFile s)).1, s :: l, (D.delete (segFile s)).2) else cutGo idx l (D.delete (segFile s)).2) else (0, s :: l, D)
def cutS (S : List Seg) (D : DiskS) (idx : Int) : Int × List Seg × DiskS := if D.dead = true then (7, S, D) else cutGo idx S D
theorem cutGo_stop {idx : Int} {s : Seg} {l : List Seg} {D : DiskS} (h : ¬ (l ≠ [] ∧ 0 < (lastS (s :: l)).size ∧ s.top ≤ idx)) : cutGo idx (s :: l) D = (0, s :: l, D) := by rw [cutGo, if_neg h]
theorem cutGo_err {idx : Int} {s : Seg} {l : List Seg} {D : DiskS} (h : l ≠ [] ∧ 0 < (lastS (s :: l)).size ∧ s.top ≤ idx) (he : (D.delete (segFile s)).1 ≠ 0) : cutGo idx (s :: l) D = ((D.delete (segFile s)).1, s :: l, (D.delete (segFile s)).2) := by rw [cutGo, if_pos h, if_pos he]
theorem cutGo_on {idx : Int} {s : Seg} {l : List Seg} {D : DiskS} (h : l ≠ [] ∧ 0 < (lastS (s :: l)).size ∧ s.top ≤ idx) (he : (D.delete (segFile s)).1 = 0) : cutGo idx (s :: l) D = cutGo idx l (D.delete (segFile s)).2 := by rw [cutGo, if_pos h, if_neg (by rw [he]; simp)]
end Go.Proofs.YtaeefjcbmkiiaaaGreatDoor
/- Behind a cut: what is read, against what was: plain. -/
namespace Go.Proofs.YtaeefjcbmkiiaaaGreatDoor
open Go Sl
set_option linter.unusedVariables false
set_option linter.unusedSimpArgs false
set_option maxHeartbeats 1000000
/-- The second list is an end of the first; what stands ahead is not above k. -/
def Suf (k : Int) (X Y : List Ent) : Prop := ∃ X0, X = X0 ++ Y ∧ ∀ x ∈ X0, x.index ≤ k
theorem lastE_app {X0 Y : List Ent} (h : Y ≠ []) : lastE (X0 ++ Y) = lastE Y := by
  have h1 := List.length_pos_iff.2 h
  unfold lastE
  rw [List.getD_eq_getElem?_getD, List.getD_eq_getElem?_getD, List.length_append]
  rw [show (((X0.length + Y.length : Nat) : Int) - 1).toNat = X0.length + (Y.length - 1) by omega, show (((Y.length : Nat) : Int) - 1).toNat = Y.length - 1 by omega]
  rw [List.getElem?_append_right (by omega), Nat.add_sub_cancel_left]
theorem headE_app {X0 Y : List Ent} (hX : Rise (X0 ++ Y)) (h : Y ≠ []) : (headE Y).index = (headE (X0 ++ Y)).index + X0.length := by
  have h1 := List.length_pos_iff.2 h
  have := hX.up X0.length (by rw [List.length_append]; omega)
  rw [List.getD_eq_getElem?_getD, List.getElem?_append_right (Nat.le_refl _), Nat.sub_self, ← List.getD_eq_getElem?_getD] at this
  exact this
theorem suf_put {k : Int} {X Y : List Ent} {e : Ent} (hX : Rise X) (he : e.In) (h0 : 0 < e.index) (h : Suf k X Y) : Suf k (putE X e) (putE Y e) := by
  obtain ⟨X0, rfl, hk⟩ := h
  by_cases hY : Y = []
  · subst hY
    rw [List.append_nil] at hX ⊢
    have e1 : putE [] e = [e] := by simp [putE]
    rw [e1]
    rcases putE_cases X0 e hX he h0 with h | ⟨_, _, _, h⟩
    · rw [h]; exact ⟨[], rfl, fun x hx => by cases hx⟩
    · rw [h]; exact ⟨_, rfl, fun x hx => hk x (List.mem_of_mem_take hx)⟩
  · have hYl := List.length_pos_iff.2 hY
    have hl := lastE_app (X0 := X0) hY
    have hh := headE_app hX hY
    have hXl : ¬ (((X0 ++ Y).length : Int) = 0) := by rw [List.length_append]; omega
    have hYl' : ¬ ((Y.length : Int) = 0) := by omega
    by_cases c1 : IntKind.i64.wrap ((lastE Y).index + 1) < e.index
    · have a1 : putE (X0 ++ Y) e = [e] := if_pos (.inr (.inl (by rw [hl]; exact c1)))
      have a2 : putE Y e = [e] := if_pos (.inr (.inl c1))
      rw [a1, a2]; exact ⟨[], rfl, fun x hx => by cases hx⟩
    by_cases c2 : e.index < (headE (X0 ++ Y)).index
    · have a1 : putE (X0 ++ Y) e = [e] := if_pos (.inr (.inr c2))
      have a2 : putE Y e = [e] := if_pos (.inr (.inr (by omega)))
      rw [a1, a2]; exact ⟨[], rfl, fun x hx => by cases hx⟩
    have a1 : putE (X0 ++ Y) e = (X0 ++ Y).take (e.index - (headE (X0 ++ Y)).index).toNat ++ [e] := if_neg (by rintro (h | h | h); exact hXl h; rw [hl] at h; exact c1 h; exact c2 h)
    rw [a1]
    by_cases c3 : e.index < (headE Y).index
    · have a2 : putE Y e = [e] := if_pos (.inr (.inr c3))
      rw [a2]
      refine ⟨_, rfl, fun x hx => hk x ?_⟩
      rw [List.take_append_of_le_length (by omega)] at hx
      exact List.mem_of_mem_take hx
    · have a2 : putE Y e = Y.take (e.index - (headE Y).index).toNat ++ [e] := if_neg (by rintro (h | h | h); exact hYl' h; exact c1 h; exact c3 h)
      rw [a2]
      refine ⟨X0, ?_, hk⟩
      rw [← List.append_assoc]
      congr 1
      rw [List.take_append, List.take_of_length_le (by omega)]
      congr 2
      omega
theorem app_rise {x : Hrd × List Ent} {r : Rec} (hr : r.Good) (h : Rise x.2) : Rise (Rec.app x r).2 := by
  cases r with
  | hard _ => exact h
  | ent e =>
    have hp : 0 < e.index := by
      have := hr.2.1
      simp only [Ent.right, Bool.and_eq_true, decide_eq_true_eq] at this
      exact this.1.1.1
    exact putE_rise h hr.1 hp
  | reset => exact ⟨fun i hi => by simp [Rec.app] at hi, fun e he => (by cases he), fun e he => (by cases he)⟩
theorem fold_rise : ∀ (l : List Rec) (x : Hrd × List Ent), (∀ r ∈ l, r.Good) → Rise x.2 → Rise (l.foldl Rec.app x).2
  | [], x, _, h => h
  | r :: l, x, hg, h => fold_rise l _ (fun q hq => hg q (List.mem_cons_of_mem _ hq)) (app_rise (hg r (List.mem_cons_self ..)) h)
theorem suf_fold {k : Int} : ∀ (l : List Rec) (x y : Hrd × List Ent), (∀ r ∈ l, r.Good) → Rise x.2 → Suf k x.2 y.2 → Suf k (l.foldl Rec.app x).2 (l.foldl Rec.app y).2 ∧ (x.1 = y.1 → (l.foldl Rec.app x).1 = (l.foldl Rec.app y).1)
  | [], x, y, _, _, h => ⟨h, fun e => e⟩
  | r :: l, x, y, hg, hX, h => by
    have hr := hg r (List.mem_cons_self ..)
    have h1 : Suf k (Rec.app x r).2 (Rec.app y r).2 := by
      cases r with
      | hard _ => exact h
      | ent e =>
        have hp : 0 < e.index := by
          have := hr.2.1
          simp only [Ent.right, Bool.and_eq_true, decide_eq_true_eq] at this
          exact this.1.1.1
        exact suf_put hX hr.1 hp h
      | reset => exact ⟨[], rfl, fun x hx => by cases hx⟩
    obtain ⟨i1, i2⟩ := suf_fold l (Rec.app x r) (Rec.app y r) (fun q hq => hg q (List.mem_cons_of_mem _ hq)) (app_rise hr hX) h1
    refine ⟨i1, fun e => i2 ?_⟩
    cases r with
    | hard _ => rfl
    | ent _ => exact e
    | reset => exact e
theorem topR_mono : ∀ (l : List Rec) (t : Int), t ≤ l.foldl topR t
  | [], t => Int.le_refl _
  | r :: l, t => by
    have h1 := topR_mono l (topR t r)
    have h2 : t ≤ topR t r := by cases r <;> simp [topR] <;> omega
    rw [List.foldl_cons]; omega
theorem fold_top {k : Int} : ∀ (l : List Rec) (t : Int) (x : Hrd × List Ent), l.foldl topR t ≤ k → (∀ e ∈ x.2, e.index ≤ k) → ∀ e ∈ (l.foldl Rec.app x).2, e.index ≤ k
  | [], t, x, _, h => h
  | r :: l, t, x, ht, h => by
    rw [List.foldl_cons] at ht ⊢
    refine fold_top l (topR t r) _ ht ?_
    have h1 := topR_mono l (topR t r)
    cases r with
    | hard _ => exact h
    | ent e =>
      intro a ha
      rcases putE_mem ha with rfl | ha
      · have : a.index ≤ topR t (.ent a) := by simp [topR]; omega
        omega
      · exact h a ha
    | reset => intro a ha; cases ha
theorem folds_top {k : Int} : ∀ (G : GL) (x : Hrd × List Ent), (∀ g ∈ G, topOf g.2 ≤ k) → (∀ e ∈ x.2, e.index ≤ k) → ∀ e ∈ ((G.flatMap (·.2)).foldl Rec.app x).2, e.index ≤ k
  | [], x, _, h => h
  | g :: G, x, hg, h => by
    rw [List.flatMap_cons, List.foldl_append]
    exact folds_top G _ (fun q hq => hg q (List.mem_cons_of_mem _ hq)) (fold_top g.2 0 x (hg g (List.mem_cons_self ..)) h)
theorem rise_nil : Rise ([] : List Ent) := ⟨fun i hi => by simp at hi, fun e he => (by cases he), fun e he => (by cases he)⟩
/-- What is read behind a cut. -/
theorem fold_cut {k : Int} {G1 G2 : GL} (hg : ∀ g ∈ G1 ++ G2, ∀ r ∈ g.2, r.Good) (h1 : ∀ g ∈ G1, topOf g.2 ≤ k) (h2 : G2 ≠ []) (hh : ∀ g ∈ G2, ∃ h t, g.2 = .hard h :: t) : (foldOf (G1 ++ G2)).1 = (foldOf G2).1 ∧ Suf k (foldOf (G1 ++ G2)).2 (foldOf G2).2 := by
  obtain ⟨g, G, rfl⟩ := List.exists_cons_of_ne_nil h2
  obtain ⟨h, t, ht⟩ := hh g (List.mem_cons_self ..)
  have hgood : ∀ r ∈ (g :: G).flatMap (·.2), r.Good := fun r hr => by
    obtain ⟨q, hq, hr⟩ := List.mem_flatMap.1 hr
    exact hg q (List.mem_append_right _ hq) r hr
  have hgood1 : ∀ r ∈ G1.flatMap (·.2), r.Good := fun r hr => by
    obtain ⟨q, hq, hr⟩ := List.mem_flatMap.1 hr
    exact hg q (List.mem_append_left _ hq) r hr
  have hX : Rise (foldOf G1).2 := fold_rise _ _ hgood1 rise_nil
  have hk : ∀ e ∈ (foldOf G1).2, e.index ≤ k := folds_top G1 _ h1 fun e he => by cases he
  have e1 : foldOf (G1 ++ g :: G) = ((g :: G).flatMap (·.2)).foldl Rec.app (foldOf G1) := by unfold foldOf; rw [List.flatMap_append, List.foldl_append]
  rw [e1]
  unfold foldOf
  have hsuf : Suf k (foldOf G1).2 [] := ⟨(foldOf G1).2, by simp, hk⟩
  refine ⟨?_, (suf_fold _ _ _ hgood hX hsuf).1⟩
  rw [List.flatMap_cons, ht, List.cons_append, List.foldl_cons, List.foldl_cons]
  refine (suf_fold (k := k) (t ++ G.flatMap (·.2)) (Rec.app (foldOf G1) (.hard h)) (Rec.app (⟨0, 0⟩, []) (.hard h)) (fun r hr => hgood r ?_) hX hsuf).2 rfl
  rw [List.flatMap_cons, ht, List.cons_append]
  exact List.mem_cons_of_mem _ hr
theorem delete_live {D : DiskS} (h1 : D.dead = false) (h2 : D.fuse = -1) {n : Nm} {f : FileS} (ha : assoc D.files n = some f) : D.delete n = (0, { D with files := adel D.files n }) := by
  unfold DiskS.delete DiskS.does
  have : D.find n = (f, 0) := by unfold DiskS.find; rw [if_neg (by rw [h1]; simp), ha]
  rw [this, turn_live h2]
  simp
theorem adel_map {κ α β : Type} [DecidableEq κ] (f : α → β) (l : List (κ × α)) (k : κ) : (adel l k).map (fun p => (p.1, f p.2)) = adel (l.map fun p => (p.1, f p.2)) k := by
  induction l with
  | nil => rfl
  | cons p l ih =>
    obtain ⟨q, y⟩ := p
    rw [adel, List.map_cons, adel]
    split
    · rfl
    · rw [List.map_cons, ih]
/-- A cut of a log whose power stays. -/
theorem cut_lays {idx : Int} : ∀ (G : GL) (D : DiskS), Lays (G.map (·.1)) D G → D.dead = false → D.fuse = -1 → D.Ok → G ≠ [] →
    ∃ G1 G2 D', G = G1 ++ G2 ∧ G2 ≠ [] ∧ cutGo idx (G.map (·.1)) D = (0, G2.map (·.1), D') ∧ Lays (G2.map (·.1)) D' G2 ∧ (∀ g ∈ G1, topOf g.2 ≤ idx) ∧ D'.dead = false ∧ D'.Ok ∧ D'.most = D.most
  | [], D, _, _, _, _, h => absurd rfl h
  | g :: G, D, hL, hd, hf, hok, _ => by
    rw [List.map_cons]
    by_cases hc : G.map (·.1) ≠ [] ∧ 0 < (lastS (g.1 :: G.map (·.1))).size ∧ g.1.top ≤ idx
    · have hm : (segFile g.1, bytesOf g.2) ∈ cont D := by rw [hL.cont]; simp
      unfold cont at hm
      obtain ⟨p, hp, he⟩ := List.mem_map.1 hm
      simp only [Prod.mk.injEq] at he
      have ha := assoc_of_nodup hok.nd hp
      rw [he.1] at ha
      have hdel := delete_live hd hf ha
      have hok' := hok.delete (segFile g.1)
      rw [cutGo_on hc (by rw [hdel]), hdel]
      rw [hdel] at hok'
      have hL' : Lays (G.map (·.1)) { D with files := adel D.files (segFile g.1) } G := {
        segs := rfl
        cont := by
          have h1 := adel_map FileS.bytes D.files (segFile g.1)
          refine h1.trans ?_
          have h2 := hL.cont
          unfold cont at h2
          rw [h2, List.map_cons, adel, if_pos rfl]
        good := fun q hq => hL.good q (List.mem_cons_of_mem _ hq)
        head := fun q hq => hL.head q (List.mem_cons_of_mem _ hq)
        tops := fun q hq => hL.tops q (List.mem_cons_of_mem _ hq)
        size := fun q hq => hL.size q (List.mem_cons_of_mem _ hq)
        inc := by have := hL.inc; rw [List.map_cons, List.pairwise_cons] at this; exact this.2
        rng := fun q hq => hL.rng q (List.mem_cons_of_mem _ hq) }
      obtain ⟨G1, G2, D', i1, i2, i3, i4, i5, i6, i7, i8⟩ := cut_lays G _ hL' hd hf hok' (by intro h; exact hc.1 (by rw [h]; rfl))
      refine ⟨g :: G1, G2, D', by rw [i1]; rfl, i2, i3, i4, fun q hq => ?_, i6, i7, i8⟩
      rcases List.mem_cons.1 hq with rfl | hq
      · rw [← hL.tops q (List.mem_cons_self ..)]; exact hc.2.2
      · exact i5 q hq
    · exact ⟨[], g :: G, D, rfl, by simp, cutGo_stop hc, hL, fun q hq => (by cases hq), hd, hok, rfl⟩
end Go.Proofs.YtaeefjcbmkiiaaaGreatDoor
/- A part of a slice that is not empty is not nil: a rule. -/
namespace Go.Proofs.YtaeefjcbmkiiaaaGreatDoor.Sl
open Go Go.RowKit
section
variable {c : Ctx} {k : List Item} {st : St} {Γ : List Assn} {d : Option Tmp} {ty : TypeId} {pos : String} {af : Array Edge} {g : Option (Nat × Bool)} {ops : Array Oper} {rs : List Oper} {l : List Stp} {fl : Bool} {x y : Operand} {T U : TypeId}
theorem sev {α : Type} {e : EncT α} {L : List α} {E : TypeId} {v : Value} {a b z : Nat} [ht : TSlice c.P T E] (hx : ev st x = some (vw v a b z)) [hr : RdG Γ v e L] (hL : 0 < L.length) (h0 : JR c ops l k (stput d (.bool false) st) Γ) (hy : ev st y = some (.slice none 0 0) := by rfl)
    (hg : gOk ops st ⟨d, .binOp .eql T x y U, ty, pos, af, g⟩ = some true := by rfl) (hd : dOk d c.n = true := by rfl) : JR c ops (⟨⟨d, .binOp .eql T x y U, ty, pos, af, g⟩, fl, []⟩ :: l) k st Γ := by
  refine JR_fact (p := ∃ q n m, vw v a b z = .slice (some q) n m) (fun w hS => ?_) ?_
  · rcases hr.h _ _ _ hS with h | ⟨b', off, cap, cur, E', fz, h1, h2, h3, h4⟩
    · rw [h.2] at hL; exact absurd hL (by simp)
    · rw [h1]
      unfold vw
      by_cases hc : cap = a
      · exact ⟨_, _, _, by dsimp only; rw [if_pos hc]⟩
      · exact ⟨_, _, _, by dsimp only; rw [if_neg hc]; rfl⟩
  · rintro ⟨q, n, m, hv⟩
    refine ro h0 (fun ac w ha _ => ?_) hg hd
    rw [hv] at hx
    simp [execOp, ev_eval ha hx, ev_eval ha hy, run_eqGuard_slice, Lib.run_eql_slice_nil w T E (some q) n m 0 0 ht.h]
end
end Go.Proofs.YtaeefjcbmkiiaaaGreatDoor.Sl
/- Cut. -/
namespace Go.Proofs.YtaeefjcbmkiiaaaGreatDoor
open Go Sl
attribute [local irreducible] J JR JS RO CR Arr Sat Tr sat blk
set_option linter.unusedVariables false
set_option linter.unusedSimpArgs false
set_option maxHeartbeats 2000000
set_option maxRecDepth 4000
theorem cloneV_tr (v : Value) (L : List Seg) (a : Nat) (ha : a ≤ L.length) (h0 : 0 < L.length) (hl : L.length ≤ 1000000) : Tr Tryz.prog 54 [vw v a L.length 3] [sl 94 segE v L] fun r Γ => Γ = [sl 94 segE v L, sl 94 segE r (L.drop a)] := by
  refine Tr_of_J Tryz.func54 follows rfl Tryz.ntmps54 (by simp) fun B F => ?_
  repeat' (first | refine sev rfl h0 ?_ | refine bsl (e := segE) (X := []) (fun v2 => ?_) .nil | refine apv (a := a) (b := L.length) (L := L) rfl rfl ha (Nat.le_refl _) (fun v3 => ?_) (by simp; omega) (by simp; omega) | refine mv ?_ | refine asn ?_ | refine jn ?_ | refine nl ?_ | refine sq ?_ | refine rg ?_ | refine kp ?_ | refine ct ?_ | refine cf ?_ | (refine cd (fun hc => ?_) (fun hc => ?_) <;> try (exfalso; omega)) | (refine cn (fun hc => ?_) (fun hc => ?_) <;> try (exfalso; omega)) | refine bl ?_ | refine ib ?_ | refine xt ?_ | refine af_ ?_ | refine cb (fun hc => ?_) (fun hc => ?_) | fail)
  rw [List.nil_append, List.take_length]
  refine rt ?_
  exact ⟨_, rfl, _, by repeat constructor⟩
theorem cut_tr (w d m : Nat) (h : Hrd) (ev sv : Value) (S : List Seg) (D : DiskS) (idx : Int) (hD : D.Ok) (hS : S ≠ []) (hSl : S.length ≤ 1000) (hn : ∀ s ∈ S, 0 ≤ s.number ∧ s.number < 100) :
    Tr Tryz.prog 28 [.pointer (some ⟨w, 0, none⟩), .int .i64 idx] [blk w (lcell d h ev sv), sl 94 segE sv S, blk d (dcell m D), mp fmap m D.files]
      fun v Γ => ∃ sv', v = .int .i64 (cutS S D idx).1 ∧ Γ = [blk w (lcell d h ev sv'), sl 94 segE sv' (cutS S D idx).2.1, blk d (dcell m (cutS S D idx).2.2), mp fmap m (cutS S D idx).2.2.files] := by
  refine Tr_of_J Tryz.func28 follows rfl Tryz.ntmps28 (by simp) fun B F => ?_
  repeat' (first | (refine cl (dead_tr d m D) ?_; rintro v Γ' ⟨rfl, rfl⟩; refine n1 ?_) | refine mv ?_ | refine asn ?_ | refine jn ?_ | refine nl ?_ | refine ld rfl ?_ | refine nc ?_ | refine f0 ?_ | refine sq ?_ | refine rg ?_ | refine lnb ?_ | refine lls rfl ?_ | refine sb ?_ | refine neq ?_ | refine gtr ?_ | refine leq ?_ | refine p1 ?_ | refine p0 ?_ | refine sk2 ?_ | refine kp ?_ | refine ct ?_ | refine cf ?_ | (refine cd (fun hc => ?_) (fun hc => ?_) <;> try (exfalso; omega)) | (refine cn (fun hc => ?_) (fun hc => ?_) <;> try (exfalso; omega)) | refine bl ?_ | refine ib ?_ | refine xt ?_ | refine sr rfl ?_ | refine la rfl ?_ | refine ixa rfl rfl ?_ | refine fe ?_ | refine lde rfl ?_ | refine lae rfl ?_ | refine fa ?_ | refine sne ?_ | refine slb ?_ | refine slbl ?_ | refine slbh ?_ | refine af_ ?_ | (refine gd (fun hc => ?_) (fun hc => ?_) <;> try (exfalso; omega)) | (refine gn (fun hc => ?_) (fun hc => ?_) <;> try (exfalso; omega)) | refine sw ?_ | refine ane ?_ | refine sli rfl ?_ | refine slil rfl ?_ | refine slih rfl ?_ | refine cb (fun hc => ?_) (fun hc => ?_) | refine gs (fun hc => ?_) (fun hc => ?_) | refine J_draw (id := 3) [(0, true, []), (1, true, []), (2, true, []), (3, true, []), (4, true, []), (5, true, []), (6, true, []), (7, true, []), (8, true, []), (9, true, []), (10, true, []), (11, true, []), (12, true, []), (13, true, []), (14, true, []), (15, true, []), (16, true, []), (17, true, []), (18, true, []), (19, true, []), (20, true, []), (21, true, []), (22, true, []), (23, true, []), (24, true, []), (25, true, []), (26, true, []), (27, true, []), (28, true, []), (29, true, []), (30, true, []), (31, true, []), (32, true, [])] (by kernel_rfl) ?_ | refine J_draw (id := 4) [(0, true, []), (1, true, []), (2, true, []), (3, true, []), (4, true, []), (5, true, []), (6, true, []), (7, true, []), (8, true, []), (9, true, []), (10, false, [0, 1, 2, 3]), (11, false, []), (12, true, [])] (by kernel_rfl) ?_ | refine JS_cons rfl rfl (RO_move rfl) ?_ | refine JS_cons rfl rfl (RO_nilCheck rfl) ?_ | refine JS_cons rfl rfl (RO_fieldAddr0 rfl) ?_ | refine JS_cons rfl rfl (RO_load rfl (by rfl)) ?_ | refine JS_off rfl ?_ | refine JS_cons rfl rfl (RO_fieldAddr rfl) ?_ | refine JS_cons rfl rfl (RO_lnb rfl) ?_ | refine JS_cons rfl rfl (RO_lls rfl) ?_ | refine JS_cons rfl rfl (RO_sub_in rfl rfl (by omega)) ?_ | refine JS_cons rfl rfl (RO_ixa rfl rfl (by omega)) ?_ | refine JS_cons rfl rfl (RO_fe rfl) ?_ | refine JS_cons rfl rfl (RO_lde rfl (by omega) rfl) ?_ | refine JS_cons rfl rfl (RO_slih rfl rfl (by omega)) ?_ | refine JS_cons rfl rfl (RO_slil rfl rfl (by omega)) ?_ | refine JS_offu rfl ?_ | refine JS_cons rfl rfl (RO_lae rfl (by omega) (by repeat constructor)) ?_ | refine JS_cons rfl rfl (RO_loadAgg rfl (by repeat constructor)) ?_ | fail)
  · have hdead : D.dead = true := by assumption
    have e : cutS S D idx = (7, S, D) := if_pos hdead
    rw [e]
    refine rt ?_
    exact ⟨_, ⟨_, rfl, rfl⟩, _, by repeat constructor⟩
  have hdead : ¬ D.dead = true := by
    have : D.dead = false := by assumption
    simp [this]
  have e : cutS S D idx = cutGo idx S D := if_neg hdead
  rw [e]
  clear e hdead
  refine lp (α := List Seg × Value × DiskS) (fun y => [(0, .pointer (some ⟨w, 0, none⟩)), (1, .int .i64 idx)]) (fun y => [blk w (lcell d h ev y.2.1), sl 94 segE y.2.1 y.1, blk d (dcell m y.2.2), mp fmap m y.2.2.files]) (fun y => y.1 ≠ [] ∧ y.1.length ≤ 1000 ∧ (∀ s ∈ y.1, 0 ≤ s.number ∧ s.number < 100) ∧ y.2.2.Ok ∧ cutGo idx S D = cutGo idx y.1 y.2.2) (fun y => y.1.length) (S, sv, D) ?_ ⟨hS, hSl, hn, hD, rfl⟩
  clear hS hSl hn hD
  rintro ⟨S1, sv1, D1⟩ ⟨hS1, hSl1, hn1, hD1, hgo⟩ again
  dsimp only at hS1 hSl1 hn1 hD1 hgo again ⊢
  obtain ⟨s, r, hcons⟩ := List.exists_cons_of_ne_nil hS1
  have hlen : S1.length = r.length + 1 := by rw [hcons]; rfl
  have hget : S1.getD (Int.toNat 0) segE.dflt = s := by rw [hcons]; rfl
  have hlast : S1.getD ((S1.length : Int) - 1).toNat segE.dflt = lastS S1 := rfl
  have hs := hn1 s (by rw [hcons]; simp)
  have hnm : Tr Tryz.prog 43 [segV (S1.getD (Int.toNat 0) segE.dflt)] [] fun v Γ => v = vs (segFile s) ∧ Γ = [] := by
    rw [hget]; exact segName_tr s hs.1 hs.2
  repeat' (first | (refine cl hnm ?_; rintro v Γ' ⟨rfl, rfl⟩; refine n0 ?_) | (refine cl (delete_tr d m D1 hD1 (segFile s)) ?_; rintro v Γ' ⟨rfl, rfl⟩; refine n2 ?_) | (refine cl (cloneV_tr sv1 S1 1 (by omega) (by omega) (by omega)) ?_; rintro v Γ' rfl; refine n2 ?_) | refine sro rfl rfl ?_ | refine mv ?_ | refine asn ?_ | refine jn ?_ | refine nl ?_ | refine ld rfl ?_ | refine nc ?_ | refine f0 ?_ | refine sq ?_ | refine rg ?_ | refine lnb ?_ | refine lls rfl ?_ | refine sb ?_ | refine neq ?_ | refine gtr ?_ | refine leq ?_ | refine p1 ?_ | refine p0 ?_ | refine sk2 ?_ | refine kp ?_ | refine ct ?_ | refine cf ?_ | (refine cd (fun hc => ?_) (fun hc => ?_) <;> try (exfalso; omega)) | (refine cn (fun hc => ?_) (fun hc => ?_) <;> try (exfalso; omega)) | refine bl ?_ | refine ib ?_ | refine xt ?_ | refine sr rfl ?_ | refine la rfl ?_ | refine ixa rfl rfl ?_ | refine fe ?_ | refine lde rfl ?_ | refine lae rfl ?_ | refine fa ?_ | refine sne ?_ | refine slb ?_ | refine slbl ?_ | refine slbh ?_ | refine af_ ?_ | (refine gd (fun hc => ?_) (fun hc => ?_) <;> try (exfalso; omega)) | (refine gn (fun hc => ?_) (fun hc => ?_) <;> try (exfalso; omega)) | refine sw ?_ | refine ane ?_ | refine sli rfl ?_ | refine slil rfl ?_ | refine slih rfl ?_ | refine cb (fun hc => ?_) (fun hc => ?_) | refine gs (fun hc => ?_) (fun hc => ?_) | refine J_draw (id := 3) [(0, true, []), (1, true, []), (2, true, []), (3, true, []), (4, true, []), (5, true, []), (6, true, []), (7, true, []), (8, true, []), (9, true, []), (10, true, []), (11, true, []), (12, true, []), (13, true, []), (14, true, []), (15, true, []), (16, true, []), (17, true, []), (18, true, []), (19, true, []), (20, true, []), (21, true, []), (22, true, []), (23, true, []), (24, true, []), (25, true, []), (26, true, []), (27, true, []), (28, true, []), (29, true, []), (30, true, []), (31, true, []), (32, true, [])] (by kernel_rfl) ?_ | refine J_draw (id := 4) [(0, true, []), (1, true, []), (2, true, []), (3, true, []), (4, true, []), (5, true, []), (6, true, []), (7, true, []), (8, true, []), (9, true, []), (10, false, [0, 1, 2, 3]), (11, false, []), (12, true, [])] (by kernel_rfl) ?_ | refine JS_cons rfl rfl (RO_move rfl) ?_ | refine JS_cons rfl rfl (RO_nilCheck rfl) ?_ | refine JS_cons rfl rfl (RO_fieldAddr0 rfl) ?_ | refine JS_cons rfl rfl (RO_load rfl (by rfl)) ?_ | refine JS_off rfl ?_ | refine JS_cons rfl rfl (RO_fieldAddr rfl) ?_ | refine JS_cons rfl rfl (RO_lnb rfl) ?_ | refine JS_cons rfl rfl (RO_lls rfl) ?_ | refine JS_cons rfl rfl (RO_sub_in rfl rfl (by omega)) ?_ | refine JS_cons rfl rfl (RO_ixa rfl rfl (by omega)) ?_ | refine JS_cons rfl rfl (RO_fe rfl) ?_ | refine JS_cons rfl rfl (RO_lde rfl (by omega) rfl) ?_ | refine JS_cons rfl rfl (RO_slih rfl rfl (by omega)) ?_ | refine JS_cons rfl rfl (RO_slil rfl rfl (by omega)) ?_ | refine JS_offu rfl ?_ | refine JS_cons rfl rfl (RO_lae rfl (by omega) (by repeat constructor)) ?_ | refine JS_cons rfl rfl (RO_loadAgg rfl (by repeat constructor)) ?_ | fail)
  · have hgo2 := cutGo_err (D := D1) (s := s) (l := r) (idx := idx) ⟨by rintro rfl; simp at hlen; omega, by rw [← hcons, ← hlast]; assumption, by rw [← hget]; assumption⟩ (by assumption)
    rw [hgo, hcons, hgo2, ← hcons]
    refine rt ?_
    exact ⟨_, ⟨_, rfl, rfl⟩, _, by repeat constructor⟩
  · have hgo2 := cutGo_on (D := D1) (s := s) (l := r) (idx := idx) ⟨by rintro rfl; simp at hlen; omega, by rw [← hcons, ← hlast]; assumption, by rw [← hget]; assumption⟩ (by assumption)
    have hdr : S1.drop 1 = r := by rw [hcons]; rfl
    rw [hdr]
    refine ag (again (r, v, (D1.delete (segFile s)).2) ⟨by rintro rfl; simp at hlen; omega, by dsimp only; omega, fun x hx => hn1 x (by rw [hcons]; exact List.mem_cons_of_mem _ hx), hD1.delete _, ?_⟩ (by dsimp only; omega))
    rw [hgo, hcons, hgo2]
  all_goals
    have hgo2 := cutGo_stop (D := D1) (s := s) (l := r) (idx := idx) (fun hx => by
      obtain ⟨x1, x2, x3⟩ := hx
      have x4 := List.length_pos_iff.2 x1
      rw [← hcons, ← hlast] at x2
      rw [← hget] at x3
      first | contradiction | omega)
    rw [hgo, hcons, hgo2, ← hcons]
    refine rt ?_
    exact ⟨_, ⟨_, rfl, rfl⟩, _, by repeat constructor⟩
end Go.Proofs.YtaeefjcbmkiiaaaGreatDoor
/- The law WalCuts: is an entry there. -/
namespace Go.Proofs.YtaeefjcbmkiiaaaGreatDoor
open Go Sl
attribute [local irreducible] J JR JS RO CR Arr Sat Tr sat blk
set_option linter.unusedVariables false
set_option linter.unusedSimpArgs false
set_option maxHeartbeats 2000000
set_option maxRecDepth 4000
theorem has_tr (v : Value) (L : List Ent) (e : Ent) (hl : L.length ≤ 1000000) : Tr Tryz.prog 29 [v, entV e] [sl 70 entE v L] fun r Γ => r = .bool (decide (e ∈ L)) ∧ Γ = [sl 70 entE v L] := by
  refine Tr_of_J Tryz.func29 follows rfl Tryz.ntmps29 (by simp) fun B F => ?_
  repeat' (first | refine mv ?_ | refine asn ?_ | refine jn ?_ | refine nl ?_ | refine ld rfl ?_ | refine sq ?_ | refine rg ?_ | refine lnb ?_ | refine lls rfl ?_ | refine ad ?_ | refine lss ?_ | refine eql ?_ | refine kp ?_ | refine ct ?_ | refine cf ?_ | (refine cd (fun hc => ?_) (fun hc => ?_) <;> try (exfalso; omega)) | (refine cn (fun hc => ?_) (fun hc => ?_) <;> try (exfalso; omega)) | refine bl ?_ | refine ib ?_ | refine xt ?_ | refine bx (fun b_ => ?_) | refine la rfl ?_ | refine ixa rfl rfl ?_ | refine lde rfl ?_ | refine lae rfl ?_ | refine seq ?_ | refine cc ?_ | refine af_ ?_ | refine aw ?_ | refine aeq ?_ | refine cb (fun hc => ?_) (fun hc => ?_) | refine J_draw (id := 4) [(0, true, []), (1, true, []), (2, true, []), (3, true, []), (4, true, []), (5, true, [])] (by kernel_rfl) ?_ | fail)
  refine lp (α := Nat) (fun y => [(0, v), (3, .pointer (some ⟨b_, 0, none⟩)), (5, .int .i64 y)]) (fun y => [sl 70 entE v L, blk b_ (.cells ⟨[.int .i64 e.index, .int .i64 e.term, .int .i64 e.kind, vs e.data]⟩ 70 (0, 0))]) (fun y => y ≤ L.length ∧ e ∉ L.take y) (fun y => L.length - y) 0 ?_ ⟨Nat.zero_le _, by simp⟩
  rintro i ⟨hi, hn⟩ again
  repeat' (first | refine mv ?_ | refine asn ?_ | refine jn ?_ | refine nl ?_ | refine ld rfl ?_ | refine sq ?_ | refine rg ?_ | refine lnb ?_ | refine lls rfl ?_ | refine ad ?_ | refine lss ?_ | refine eql ?_ | refine kp ?_ | refine ct ?_ | refine cf ?_ | (refine cd (fun hc => ?_) (fun hc => ?_) <;> try (exfalso; omega)) | (refine cn (fun hc => ?_) (fun hc => ?_) <;> try (exfalso; omega)) | refine bl ?_ | refine ib ?_ | refine xt ?_ | refine bx (fun b_ => ?_) | refine la rfl ?_ | refine ixa rfl rfl ?_ | refine lde rfl ?_ | refine lae rfl ?_ | refine seq ?_ | refine cc ?_ | refine af_ ?_ | refine aw ?_ | refine aeq ?_ | refine cb (fun hc => ?_) (fun hc => ?_) | refine J_draw (id := 4) [(0, true, []), (1, true, []), (2, true, []), (3, true, []), (4, true, []), (5, true, [])] (by kernel_rfl) ?_ | fail)
  · have hi' : i < L.length := by omega
    have h5 := hc
    rw [eqE] at h5
    have h6 : L.getD i .none = e := of_decide_eq_true h5
    rw [show decide (e ∈ L) = true from decide_eq_true (by rw [← h6, getD_of hi']; exact List.getElem_mem hi')]
    refine rt ?_
    exact ⟨_, ⟨rfl, rfl⟩, _, by repeat constructor⟩
  · have hi' : i < L.length := by omega
    have h5 := hc
    rw [eqE] at h5
    have h6 : ¬ L.getD i .none = e := of_decide_eq_false h5
    refine ag (again (i + 1) ⟨hi', ?_⟩ (by omega))
    rw [List.take_succ_eq_append_getElem hi', List.mem_append, List.mem_singleton]
    rintro (h | h)
    · exact hn h
    · exact h6 (by rw [getD_of hi', h])
  · have hil : i = L.length := by omega
    rw [hil, List.take_length] at hn
    rw [show decide (e ∈ L) = false from decide_eq_false hn]
    refine rt ?_
    exact ⟨_, ⟨rfl, rfl⟩, _, by repeat constructor⟩
theorem walCuts_tr (lv : Value) (l : List Act) (hl : l.length ≤ 9223372036854775807) (hin : ∀ a ∈ l, a.In) (index : Int) (hix : I64 index) :
    Tr Tryz.prog 5 [lv, .int .i64 index] [rsl actE lv l] fun v Γ => v = .bool true ∧ Γ = [] := by
  have hpk := pickI_lt index (n := 40) (by decide)
  refine Tr_of_J Tryz.func5 follows rfl Tryz.ntmps5 (by simp) fun B F => ?_
  repeat' (first | (refine cle rfl shown_tr ?_; rintro v Γ' ⟨rfl, rfl⟩; refine n0 ?_) | (refine cle rfl (small_tr lv l hl) ?_; rintro v Γ' ⟨⟨sm, rfl, hsm⟩, rfl⟩; refine n1 ?_) | (refine cle rfl (beginG_tr 100000 (by omega) (by omega)) ?_; rintro v Γ' ⟨b, w, d, m, p, sv, W, D, ⟨rfl, hF, hG⟩, rfl⟩; refine n6 ?_) | refine mv ?_ | refine asn ?_ | refine jn ?_ | refine nl ?_ | refine ld rfl ?_ | refine nc ?_ | refine f0 ?_ | refine xt2 ?_ | refine sq ?_ | refine rg ?_ | refine lnb ?_ | refine lls rfl ?_ | refine ad ?_ | refine sb ?_ | refine lss ?_ | refine eql ?_ | refine neq ?_ | refine gtr ?_ | refine nt ?_ | refine pen ?_ | refine p1 ?_ | refine p0 ?_ | refine sk2 ?_ | refine kp ?_ | refine ct ?_ | refine cf ?_ | (refine cd (fun hc => ?_) (fun hc => ?_) <;> try (exfalso; omega)) | (refine cn (fun hc => ?_) (fun hc => ?_) <;> try (exfalso; omega)) | refine bl ?_ | refine ib ?_ | refine xt ?_ | refine al (fun b_ => ?_) | refine sr rfl ?_ | refine la rfl ?_ | refine ixa rfl rfl ?_ | refine fe ?_ | refine lde rfl ?_ | refine lae rfl ?_ | refine fa ?_ | refine sne ?_ | refine cc ?_ | refine af_ ?_ | (refine gd (fun hc => ?_) (fun hc => ?_) <;> try (exfalso; omega)) | (refine gn (fun hc => ?_) (fun hc => ?_) <;> try (exfalso; omega)) | refine aw ?_ | refine pes ?_ | refine sw ?_ | refine ane ?_ | refine cb (fun hc => ?_) (fun hc => ?_) | refine gs (fun hc => ?_) (fun hc => ?_) | refine J_draw (id := 19) [(0, true, []), (1, true, []), (2, true, []), (3, true, []), (4, true, []), (5, true, []), (6, true, []), (7, true, []), (9, true, []), (8, false, [9]), (10, true, []), (11, true, [])] (by kernel_rfl) ?_ | refine JS_cons rfl rfl (RO_move rfl) ?_ | refine JS_cons rfl rfl (RO_nilCheck rfl) ?_ | refine JS_cons rfl rfl (RO_fieldAddr0 rfl) ?_ | refine JS_cons rfl rfl (RO_load rfl (by rfl)) ?_ | refine JS_off rfl ?_ | refine JS_cons rfl rfl (RO_extract rfl rfl) ?_ | refine JS_cons rfl rfl (RO_not rfl) ?_ | refine JS_cons rfl rfl (RO_fieldAddr rfl) ?_ | refine JS_cons rfl rfl (RO_lnb rfl) ?_ | refine JS_cons rfl rfl (RO_lls rfl) ?_ | refine JS_cons rfl rfl (RO_add_in rfl rfl (by omega)) ?_ | refine JS_cons rfl rfl (RO_sub_in rfl rfl (by omega)) ?_ | refine JS_cons rfl rfl (RO_ixa rfl rfl (by omega)) ?_ | refine JS_cons rfl rfl (RO_fe rfl) ?_ | refine JS_cons rfl rfl (RO_lde rfl (by omega) rfl) ?_ | refine JS_offu rfl ?_ | refine JS_cons rfl rfl (RO_cc rfl rfl (by omega)) ?_ | refine JS_cons rfl rfl (RO_lae rfl (by omega) (by repeat constructor)) ?_ | refine JS_cons rfl rfl (RO_loadAgg rfl (by repeat constructor)) ?_ | fail)
  · refine rt ?_
    exact ⟨_, ⟨rfl, rfl⟩, _, by repeat constructor⟩
  have hsm' : sm = true := by
    have h1 : (!sm) = false := by assumption
    simpa using h1
  obtain ⟨h40, h700⟩ := hsm hsm'
  refine lp (α := Nat × Int × Value × Value × LogS × DiskS) (fun y => [(0, lv), (1, .int .i64 index), (7, .pointer (some ⟨b, 0, none⟩)), (10, .int .i64 y.2.1)]) (fun y => [blk b (wcell d w), blk w (lcell d y.2.2.2.2.1.hard y.2.2.1 y.2.2.2.1), sl 70 entE y.2.2.1 y.2.2.2.2.1.ents, sl 94 segE y.2.2.2.1 y.2.2.2.2.1.segs, blk d (dcell m y.2.2.2.2.2), mp fmap m y.2.2.2.2.2.files, rsl actE lv l]) (fun y => y.2.1 = (y.1 : Int) ∧ y.1 ≤ l.length ∧ Live y.2.2.2.2.1 y.2.2.2.2.2 (5 * y.1) ∧ (∃ G, Kept y.2.2.2.2.1 y.2.2.2.2.2 G) ∧ y.2.2.2.2.2.most = 100000) (fun y => l.length - y.1) (0, 0, .slice none 0 0, sv, W, D) ?_ ⟨rfl, Nat.zero_le _, hF.live, hG, hF.mst⟩
  clear hF hG
  rintro ⟨i, n, ev, sv, W, D⟩ ⟨hn, hi, hW, ⟨G, hK⟩, hm⟩ again
  dsimp only at hn hi hW hK hm again ⊢
  subst hn
  have ha : i < l.length → (l.getD i actE.dflt).In ∧ (l.getD i actE.dflt).data.length ≤ 700 := fun h => by
    rw [actGetD h]; exact ⟨hin _ (List.getElem_mem h), h700 _ (List.getElem_mem h)⟩
  have hle := hW.len
  have hl2 : i ≤ l.length → W.ents.length ≤ 1000000 := fun h => by omega
  clear hsm hsm'
  repeat' (first | (refine cle rfl (pick_tr (l.getD i actE.dflt).op 10 (ha (by omega)).1.o (by decide)) ?_; rintro v Γ' ⟨rfl, rfl⟩; refine n0 ?_) | (refine cle rfl (act_tr b w d m W ev sv D _ hW (by omega) (l.getD i actE.dflt) (ha (by omega)).1 (ha (by omega)).2 (by assumption)) ?_; rintro v Γ' ⟨ev2, sv2, rfl, rfl⟩; refine n6 ?_) | (refine cle rfl (entries_tr w d W.hard ev sv W.ents (by omega)) ?_; rintro v11 Γ' rfl; refine n3 ?_) | (refine cle rfl (hard_tr w d W.hard ev sv) ?_; rintro v Γ' ⟨rfl, rfl⟩; refine n1 ?_) | (refine cle rfl (pick_tr index 40 hix (by decide)) ?_; rintro v Γ' ⟨rfl, rfl⟩; refine n0 ?_) | refine mv ?_ | refine asn ?_ | refine jn ?_ | refine nl ?_ | refine ld rfl ?_ | refine nc ?_ | refine f0 ?_ | refine xt2 ?_ | refine sq ?_ | refine rg ?_ | refine lnb ?_ | refine lls rfl ?_ | refine ad ?_ | refine sb ?_ | refine lss ?_ | refine eql ?_ | refine neq ?_ | refine gtr ?_ | refine nt ?_ | refine pen ?_ | refine p1 ?_ | refine p0 ?_ | refine sk2 ?_ | refine kp ?_ | refine ct ?_ | refine cf ?_ | (refine cd (fun hc => ?_) (fun hc => ?_) <;> try (exfalso; omega)) | (refine cn (fun hc => ?_) (fun hc => ?_) <;> try (exfalso; omega)) | refine bl ?_ | refine ib ?_ | refine xt ?_ | refine al (fun b_ => ?_) | refine sr rfl ?_ | refine la rfl ?_ | refine ixa rfl rfl ?_ | refine fe ?_ | refine lde rfl ?_ | refine lae rfl ?_ | refine fa ?_ | refine sne ?_ | refine cc ?_ | refine af_ ?_ | (refine gd (fun hc => ?_) (fun hc => ?_) <;> try (exfalso; omega)) | (refine gn (fun hc => ?_) (fun hc => ?_) <;> try (exfalso; omega)) | refine aw ?_ | refine pes ?_ | refine sw ?_ | refine ane ?_ | refine cb (fun hc => ?_) (fun hc => ?_) | refine J_draw (id := 19) [(0, true, []), (1, true, []), (2, true, []), (3, true, []), (4, true, []), (5, true, []), (6, true, []), (7, true, []), (9, true, []), (8, false, [9]), (10, true, []), (11, true, [])] (by kernel_rfl) ?_ | refine JS_cons rfl rfl (RO_move rfl) ?_ | refine JS_cons rfl rfl (RO_nilCheck rfl) ?_ | refine JS_cons rfl rfl (RO_fieldAddr0 rfl) ?_ | refine JS_cons rfl rfl (RO_load rfl (by rfl)) ?_ | refine JS_off rfl ?_ | refine JS_cons rfl rfl (RO_extract rfl rfl) ?_ | refine JS_cons rfl rfl (RO_not rfl) ?_ | refine JS_cons rfl rfl (RO_fieldAddr rfl) ?_ | refine JS_cons rfl rfl (RO_lnb rfl) ?_ | refine JS_cons rfl rfl (RO_lls rfl) ?_ | refine JS_cons rfl rfl (RO_add_in rfl rfl (by omega)) ?_ | refine JS_cons rfl rfl (RO_sub_in rfl rfl (by omega)) ?_ | refine JS_cons rfl rfl (RO_ixa rfl rfl (by omega)) ?_ | refine JS_cons rfl rfl (RO_fe rfl) ?_ | refine JS_cons rfl rfl (RO_lde rfl (by omega) rfl) ?_ | refine JS_offu rfl ?_ | refine JS_cons rfl rfl (RO_cc rfl rfl (by omega)) ?_ | refine JS_cons rfl rfl (RO_lae rfl (by omega) (by repeat constructor)) ?_ | refine JS_cons rfl rfl (RO_loadAgg rfl (by repeat constructor)) ?_ | fail)
  · have hi' : i < l.length := by omega
    refine ag (again (i + 1, (i : Int) + 1, ev2, sv2, (actOf W D (l.getD i actE.dflt)).2.1, (actOf W D (l.getD i actE.dflt)).2.2) ⟨by dsimp only; omega, hi', (actOf_live hW (ha hi').1).1, actOf_kept hW hK (ha hi').1 (ha hi').2, ?_⟩ (by dsimp only; omega))
    exact (actOf_live hW (ha hi').1).2.trans hm
  · have hi' : i < l.length := by omega
    exact ag (again (i + 1, (i : Int) + 1, ev, sv, W, D) ⟨by dsimp only; omega, hi', hW.mono (by omega), ⟨G, hK⟩, hm⟩ (by dsimp only; omega))
  have hiL : i ≤ l.length := hi
  have hE1 := hl2 hiL
  have hlay : Lays (G.map (·.1)) D G := by rw [← hK.lays.segs]; exact hK.lays
  have hGne : G ≠ [] := by rintro rfl; exact hW.sd.ne (by rw [hK.lays.segs]; rfl)
  obtain ⟨G1, G2, D', g1, g2, g3, g4, g5, g6, g7, g8⟩ := cut_lays (idx := pickI index 40) G D hlay hW.sd.dead hW.sd.fuse hW.sd.ok hGne
  have hcs : cutS W.segs D (pickI index 40) = (0, G2.map (·.1), D') := by
    unfold cutS
    rw [if_neg (by rw [hW.sd.dead]; simp), hK.lays.segs]; exact g3
  have hgood : ∀ g ∈ G1 ++ G2, ∀ r ∈ g.2, r.Good := by rw [← g1]; exact hK.lays.good
  obtain ⟨f1, f2⟩ := fold_cut (k := pickI index 40) hgood g5 g2 g4.head
  rw [← g1, hK.fold] at f1 f2
  obtain ⟨E2, hE2⟩ : ∃ E2, E2 = (foldOf G2).2 := ⟨_, rfl⟩
  have hf2 : foldOf G2 = (W.hard, E2) := by rw [hE2, show W.hard = (foldOf G2).1 from f1]
  have f2' : Suf (pickI index 40) W.ents E2 := by rw [hE2]; exact f2
  obtain ⟨X0, x1, x2⟩ := f2'
  have hE2l : E2.length ≤ 1000000 := by have := congrArg List.length x1; rw [List.length_append] at this; omega
  have hsn : ∀ s ∈ W.segs, 0 ≤ s.number ∧ s.number < 100 := fun s hs => by have := hW.sd.num_le s hs; omega
  have hsc : W.segs.length ≤ 1000 := by have := hW.sd.cnt; omega
  obtain ⟨S2, hS2⟩ : ∃ S2, S2 = G2.map (·.1) := ⟨_, rfl⟩
  have hS2n : S2 ≠ [] := by rw [hS2]; intro h; exact g2 (List.map_eq_nil_iff.1 h)
  have hS2l : S2.length ≤ 1000 := by
    have h1 := congrArg List.length (hK.lays.segs.trans (congrArg (List.map (·.1)) g1))
    rw [List.map_append, List.length_append] at h1
    rw [hS2]; omega
  have hS2s : ∀ s ∈ S2, 0 ≤ s.number ∧ s.number < 100 := fun s hs => by
    rw [hS2] at hs
    obtain ⟨g, hg, rfl⟩ := List.mem_map.1 hs
    have := g4.rng g hg; omega
  rw [← hS2] at hcs g4
  have hS2p := List.length_pos_iff.2 hS2n
  have hcut : Tr Tryz.prog 28 [.pointer (some ⟨w, 0, none⟩), .int .i64 (pickI index 40)] [blk w (lcell d W.hard ev sv), sl 94 segE sv W.segs, blk d (dcell m D), mp fmap m D.files]
      fun v Γ => ∃ sv', v = .int .i64 0 ∧ Γ = [blk w (lcell d W.hard ev sv'), sl 94 segE sv' S2, blk d (dcell m D'), mp fmap m D'.files] := by
    have := cut_tr w d m W.hard ev sv W.segs D (pickI index 40) hW.sd.ok hW.sd.ne hsc hsn
    rw [hcs] at this
    exact this
  have hop := openK_tr d m ⟨W.hard, E2, S2⟩ D' g7 g6 (by omega) G2 g4 hS2n W.hard E2 hf2
  dsimp only at hop
  have hd : W.ents.length ≤ 1000000 := hE1
  clear again ha hin h700 hl2 hi hle f1 f2 hE2 hgood hGne hlay g1 g2 g3 g5 hcs hK hW
  repeat' (first | (refine cle rfl hcut ?_; rintro v Γ' ⟨sv2, rfl, rfl⟩; refine n4 ?_) | (refine cle rfl (entries_tr w d W.hard ev sv2 W.ents hd) ?_; rintro v14 Γ' rfl; refine n3 ?_) | (refine cle rfl (sameEntries_tr v14 v11 W.ents W.ents hd hd) ?_; rintro v Γ' ⟨rfl, rfl⟩; refine n2 ?_) | (refine cle rfl (segments_tr w d W.hard ev sv2 S2 hS2s hS2l) ?_; rintro v16 Γ' rfl; refine n3 ?_) | (refine cle rfl hop ?_; rintro v Γ' ⟨x, ev3, sv3, rfl, rfl⟩; refine n5 ?_) | (refine cle rfl (hard_tr x d W.hard ev3 sv3) ?_; rintro v Γ' ⟨rfl, rfl⟩; refine n1 ?_) | (refine cle rfl (entries_tr x d W.hard ev3 sv3 E2 hE2l) ?_; rintro v17 Γ' rfl; refine n3 ?_) | refine mv ?_ | refine asn ?_ | refine jn ?_ | refine nl ?_ | refine ld rfl ?_ | refine nc ?_ | refine f0 ?_ | refine xt2 ?_ | refine sq ?_ | refine rg ?_ | refine lnb ?_ | refine lls rfl ?_ | refine ad ?_ | refine sb ?_ | refine lss ?_ | refine eql ?_ | refine neq ?_ | refine gtr ?_ | refine nt ?_ | refine pen ?_ | refine p1 ?_ | refine p0 ?_ | refine sk2 ?_ | refine kp ?_ | refine ct ?_ | refine cf ?_ | (refine cd (fun hc => ?_) (fun hc => ?_) <;> try (exfalso; omega)) | (refine cn (fun hc => ?_) (fun hc => ?_) <;> try (exfalso; omega)) | refine bl ?_ | refine ib ?_ | refine xt ?_ | refine al (fun b_ => ?_) | refine sr rfl ?_ | refine la rfl ?_ | refine ixa rfl rfl ?_ | refine fe ?_ | refine lde rfl ?_ | refine lae rfl ?_ | refine fa ?_ | refine sne ?_ | refine cc ?_ | refine af_ ?_ | (refine gd (fun hc => ?_) (fun hc => ?_) <;> try (exfalso; omega)) | (refine gn (fun hc => ?_) (fun hc => ?_) <;> try (exfalso; omega)) | refine aw ?_ | refine pes ?_ | refine sw ?_ | refine ane ?_ | refine cb (fun hc => ?_) (fun hc => ?_) | refine gs (fun hc => ?_) (fun hc => ?_) | refine J_draw (id := 19) [(0, true, []), (1, true, []), (2, true, []), (3, true, []), (4, true, []), (5, true, []), (6, true, []), (7, true, []), (9, true, []), (8, false, [9]), (10, true, []), (11, true, [])] (by kernel_rfl) ?_ | refine JS_cons rfl rfl (RO_move rfl) ?_ | refine JS_cons rfl rfl (RO_nilCheck rfl) ?_ | refine JS_cons rfl rfl (RO_fieldAddr0 rfl) ?_ | refine JS_cons rfl rfl (RO_load rfl (by rfl)) ?_ | refine JS_off rfl ?_ | refine JS_cons rfl rfl (RO_extract rfl rfl) ?_ | refine JS_cons rfl rfl (RO_not rfl) ?_ | refine JS_cons rfl rfl (RO_fieldAddr rfl) ?_ | refine JS_cons rfl rfl (RO_lnb rfl) ?_ | refine JS_cons rfl rfl (RO_lls rfl) ?_ | refine JS_cons rfl rfl (RO_add_in rfl rfl (by omega)) ?_ | refine JS_cons rfl rfl (RO_sub_in rfl rfl (by omega)) ?_ | refine JS_cons rfl rfl (RO_ixa rfl rfl (by omega)) ?_ | refine JS_cons rfl rfl (RO_fe rfl) ?_ | refine JS_cons rfl rfl (RO_lde rfl (by omega) rfl) ?_ | refine JS_offu rfl ?_ | refine JS_cons rfl rfl (RO_cc rfl rfl (by omega)) ?_ | refine JS_cons rfl rfl (RO_lae rfl (by omega) (by repeat constructor)) ?_ | refine JS_cons rfl rfl (RO_loadAgg rfl (by repeat constructor)) ?_ | fail)
  · exact absurd rfl hc
  · rw [List.length_map] at hc; omega
  · rw [eqH] at hc; simp at hc
  refine lp (α := Nat) (fun y => [(11, v11), (13, .int .i64 (pickI index 40)), (16, v17), (17, .int .i64 y)]) (fun y => [sl 70 entE v17 E2, sl 70 entE v11 W.ents]) (fun y => y ≤ W.ents.length) (fun y => W.ents.length - y) 0 ?_ (Nat.zero_le _)
  rintro j hj again
  repeat' (first | (refine cle rfl (has_tr v17 E2 (W.ents.getD j .none) hE2l) ?_; rintro v Γ' ⟨rfl, rfl⟩; refine n1 ?_) | (refine cle rfl (has_tr v11 W.ents (lastE E2) hd) ?_; rintro v Γ' ⟨rfl, rfl⟩; refine n1 ?_) | refine mv ?_ | refine asn ?_ | refine jn ?_ | refine nl ?_ | refine ld rfl ?_ | refine nc ?_ | refine f0 ?_ | refine xt2 ?_ | refine sq ?_ | refine rg ?_ | refine lnb ?_ | refine lls rfl ?_ | refine ad ?_ | refine sb ?_ | refine lss ?_ | refine eql ?_ | refine neq ?_ | refine gtr ?_ | refine nt ?_ | refine pen ?_ | refine p1 ?_ | refine p0 ?_ | refine sk2 ?_ | refine kp ?_ | refine ct ?_ | refine cf ?_ | (refine cd (fun hc => ?_) (fun hc => ?_) <;> try (exfalso; omega)) | (refine cn (fun hc => ?_) (fun hc => ?_) <;> try (exfalso; omega)) | refine bl ?_ | refine ib ?_ | refine xt ?_ | refine al (fun b_ => ?_) | refine sr rfl ?_ | refine la rfl ?_ | refine ixa rfl rfl ?_ | refine fe ?_ | refine lde rfl ?_ | refine lae rfl ?_ | refine fa ?_ | refine sne ?_ | refine cc ?_ | refine af_ ?_ | (refine gd (fun hc => ?_) (fun hc => ?_) <;> try (exfalso; omega)) | (refine gn (fun hc => ?_) (fun hc => ?_) <;> try (exfalso; omega)) | refine aw ?_ | refine pes ?_ | refine sw ?_ | refine ane ?_ | refine cb (fun hc => ?_) (fun hc => ?_) | refine gs (fun hc => ?_) (fun hc => ?_) | refine J_draw (id := 19) [(0, true, []), (1, true, []), (2, true, []), (3, true, []), (4, true, []), (5, true, []), (6, true, []), (7, true, []), (9, true, []), (8, false, [9]), (10, true, []), (11, true, [])] (by kernel_rfl) ?_ | refine JS_cons rfl rfl (RO_move rfl) ?_ | refine JS_cons rfl rfl (RO_nilCheck rfl) ?_ | refine JS_cons rfl rfl (RO_fieldAddr0 rfl) ?_ | refine JS_cons rfl rfl (RO_load rfl (by rfl)) ?_ | refine JS_off rfl ?_ | refine JS_cons rfl rfl (RO_extract rfl rfl) ?_ | refine JS_cons rfl rfl (RO_not rfl) ?_ | refine JS_cons rfl rfl (RO_fieldAddr rfl) ?_ | refine JS_cons rfl rfl (RO_lnb rfl) ?_ | refine JS_cons rfl rfl (RO_lls rfl) ?_ | refine JS_cons rfl rfl (RO_add_in rfl rfl (by omega)) ?_ | refine JS_cons rfl rfl (RO_sub_in rfl rfl (by omega)) ?_ | refine JS_cons rfl rfl (RO_ixa rfl rfl (by omega)) ?_ | refine JS_cons rfl rfl (RO_fe rfl) ?_ | refine JS_cons rfl rfl (RO_lde rfl (by omega) rfl) ?_ | refine JS_offu rfl ?_ | refine JS_cons rfl rfl (RO_cc rfl rfl (by omega)) ?_ | refine JS_cons rfl rfl (RO_lae rfl (by omega) (by repeat constructor)) ?_ | refine JS_cons rfl rfl (RO_loadAgg rfl (by repeat constructor)) ?_ | fail)
  · have hjl : j < W.ents.length := by omega
    have hgt : pickI index 40 < (W.ents.getD j .none).index := by assumption
    have hno : ¬ W.ents.getD j .none ∈ E2 := by assumption
    have hm : W.ents.getD j .none ∈ X0 ++ E2 := by rw [← x1, getD_of hjl]; exact List.getElem_mem hjl
    rcases List.mem_append.1 hm with hm | hm
    · have := x2 _ hm
      omega
    · exact absurd hm hno
  · exact ag (again (j + 1) (by omega) (by omega))
  · exact ag (again (j + 1) (by omega) (by omega))
  · refine rt ?_
    exact ⟨_, ⟨rfl, rfl⟩, _, by repeat constructor⟩
  · have hne : 0 < E2.length := by omega
    have hmem : lastE E2 ∈ W.ents := by
      rw [x1]
      refine List.mem_append_right _ ?_
      unfold lastE
      rw [getD_of (by omega)]
      exact List.getElem_mem _
    rw [show decide (lastE E2 ∈ W.ents) = true from decide_eq_true hmem]
    refine rt ?_
    exact ⟨_, ⟨rfl, rfl⟩, _, by repeat constructor⟩
end Go.Proofs.YtaeefjcbmkiiaaaGreatDoor
