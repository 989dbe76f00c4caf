/- The law: both logs begun; the examples' steps. -/
import Derived.Test.YtaeefjcbmkiiaaaGreatDoorL3
import Derived.Test.YtaeefjcbmkiiaaaGreatDoorR3
namespace Go.Proofs.YtaeefjcbmkiiaaaGreatDoor
open Go Sl
attribute [local irreducible] J JR JS RO CR Arr Sat Tr sat blk
set_option linter.unusedVariables false
set_option maxHeartbeats 1000000
set_option maxRecDepth 4000
/-- What a log is that was just begun. -/
structure Fresh (W : LogS) (D : DiskS) (most : Int) : Prop where
  live : Live W D 0
  tot : DiskS.total D.files ≤ 38
  mst : D.most = most
  hard : W.hard = ⟨0, 0⟩
  ents : W.ents = []
  segs : W.segs.map segFile = [[119, 49]]
theorem fresh {most : Int} (h0 : 100 ≤ most) (h1 : most ≤ 10000000) : Fresh (log0 most) (disk0 most) most := by
  obtain ⟨_, a, b, c, d⟩ := open_live h0 h1
  refine ⟨a, b, c, rfl, rfl, ?_⟩
  rw [d]
  show [segName 1] = [[119, 49]]
  rw [segName_sn (by decide)]; rfl
theorem openF_tr (d m : Nat) (most : Int) (h0 : 100 ≤ most) (h1 : most ≤ 10000000) :
    Tr Tryz.prog 26 [.pointer (some ⟨d, 0, none⟩)] [blk d (dcell m (DiskS.new most)), mp fmap m (DiskS.new most).files]
      fun v Γ => ∃ (w : Nat) (sv : Value) (W : LogS) (D : DiskS), (v = .tuple #[.pointer (some ⟨w, 0, none⟩), .int .i64 0] ∧ Fresh W D most) ∧ Γ = [blk w (lcell d W.hard (.slice none 0 0) sv), sl 70 entE (.slice none 0 0) W.ents, sl 94 segE sv W.segs, blk d (dcell m D), mp fmap m D.files] :=
  (open0_tr d m (DiskS.new most) (DiskS.Ok.new (by omega) h1) rfl).post fun v Γ h B F w hS => by
    rcases h with ⟨h, _⟩ | ⟨h, w, sv, hv, hG⟩
    · exact absurd (open_live h0 h1).1 h
    · exact ⟨Γ, ⟨w, sv, log0 most, disk0 most, ⟨hv, fresh h0 h1⟩, hG⟩, hS⟩
/-- A save for which there is room. -/
theorem saveF_tr (w d m : Nat) (lv : Value) (W : LogS) (ev sv : Value) (D : DiskS) (n : Nat) (hW : Live W D n) (hn : n ≤ 1000) (h : Hrd) (hh : h.In) (h0 : 0 ≤ h.term ∧ 0 ≤ h.vote) (l : List Ent) (hl : ∀ e ∈ l, e.In ∧ goodI e.index) (hr : ∀ e ∈ l, e.right = true) (hne : l ≠ []) (hd : ∀ e ∈ l, e.In ∧ e.data.length ≤ 1) (hll : l.length ≤ 2) (hf : (DiskS.total D.files : Int) + 38 + l.length * 59 ≤ D.most) :
    Tr Tryz.prog 31 [.pointer (some ⟨w, 0, none⟩), hrdV h, lv] [sl 70 entE lv l, blk w (lcell d W.hard ev sv), sl 70 entE ev W.ents, sl 94 segE sv W.segs, blk d (dcell m D), mp fmap m D.files]
      fun v Γ => ∃ (ev' sv' : Value) (W' : LogS) (D' : DiskS), (v = .int .i64 0 ∧ Live W' D' (n + l.length) ∧ W'.ents = l.foldl putE W.ents ∧ W'.hard = h ∧ DiskS.total D'.files ≤ DiskS.total D.files + 38 + l.length * 59 ∧ D'.most = D.most) ∧ Γ = [blk w (lcell d W'.hard ev' sv'), sl 70 entE ev' W'.ents, sl 94 segE sv' W'.segs, blk d (dcell m D'), mp fmap m D'.files] := by
  have hs := hW.seg
  have hle := hW.len
  have hfit := save_fits hW h hh h0 l hl hr hne hd hf
  refine (save_tr w d m lv W ev sv D hW.sd.ok h hh l (by omega) (fun e he => ⟨(hd e he).1, by have := (hd e he).2; omega⟩) hs.ne hs.cnt hs.n0 hs.n1 hs.z0 hs.z1 hW.rise (by omega)).post fun v Γ ⟨ev', sv', hv, hG⟩ B F w hS => ?_
  exact ⟨Γ, ⟨ev', sv', _, _, ⟨by rw [hv, hfit.1], hfit.2⟩, hG⟩, hS⟩
theorem resetF_tr (w d m : Nat) (W : LogS) (ev sv : Value) (D : DiskS) (n : Nat) (hW : Live W D n) (hf : (DiskS.total D.files : Int) + 56 ≤ D.most) :
    Tr Tryz.prog 34 [.pointer (some ⟨w, 0, none⟩)] [blk w (lcell d W.hard ev sv), sl 70 entE ev W.ents, sl 94 segE sv W.segs, blk d (dcell m D), mp fmap m D.files]
      fun v Γ => ∃ (ev' : Value) (W' : LogS) (D' : DiskS), (v = .int .i64 0 ∧ W'.ents = []) ∧ Γ = [blk w (lcell d W'.hard ev' sv), sl 70 entE ev' W'.ents, sl 94 segE sv W'.segs, blk d (dcell m D'), mp fmap m D'.files] := by
  have hs := hW.seg
  have hfit := reset_fits hW hf
  refine (reset_tr w d m W ev sv D hW.sd.ok hW.hin hs.ne (by have := hs.cnt; omega) hs.n0 (by have := hs.n1; omega) hs.z0 hs.z1).post fun v Γ ⟨ev', hv, hG⟩ B F w hS => ?_
  exact ⟨Γ, ⟨ev', _, _, ⟨by rw [hv, hfit.1], hfit.2⟩, hG⟩, hS⟩
theorem begin_tr (most : Int) (h0 : 100 ≤ most) (h1 : most ≤ 1000000) :
    Tr Tryz.prog 10 [.int .i64 most] []
      fun v Γ => ∃ (b w d m : Nat) (p : Option Addr) (sv : Value) (W : LogS) (D : DiskS), (v = .tuple #[.pointer (some ⟨b, 0, none⟩), .pointer p, .bool true] ∧ Fresh W D most) ∧ Γ = [blk b (wcell d w), blk w (lcell d W.hard (.slice none 0 0) sv), sl 70 entE (.slice none 0 0) W.ents, sl 94 segE sv W.segs, blk d (dcell m D), mp fmap m D.files] := by
  refine Tr_of_J Tryz.func10 follows rfl Tryz.ntmps10 (by simp) fun B F => ?_
  repeat' (first | (refine cle rfl (new_tr most (by omega) (by omega)) ?_; rintro v Γ' ⟨d, m, rfl, rfl⟩; refine n2 ?_) | (refine cle rfl (rnew_tr most) ?_; rintro v Γ' ⟨r, q, rfl, rfl⟩; refine n1 ?_) | (refine cle rfl (openF_tr d m most h0 (by omega)) ?_; rintro v Γ' ⟨w, sv, W, D, ⟨rfl, hF⟩, rfl⟩; refine n5 ?_) | (refine cle rfl (ropen0_tr r most) ?_; rintro v Γ' ⟨p, e, rfl, rfl⟩; refine n0 ?_) | refine mv ?_ | refine asn ?_ | refine jn ?_ | refine nl ?_ | refine ld rfl ?_ | refine nc ?_ | refine f0 ?_ | refine xt2 ?_ | refine sq ?_ | refine rg ?_ | refine lnb ?_ | refine lls rfl ?_ | refine ad ?_ | refine sb ?_ | refine lss ?_ | refine eql ?_ | refine neq ?_ | refine gtr ?_ | refine geq ?_ | refine leq ?_ | refine nt ?_ | refine pen ?_ | refine pnn ?_ | refine p1 ?_ | refine p0 ?_ | refine sk2 ?_ | refine kp ?_ | refine ct ?_ | refine cf ?_ | (refine cd (fun hc => ?_) (fun hc => ?_) <;> try (exfalso; omega)) | (refine cn (fun hc => ?_) (fun hc => ?_) <;> try (exfalso; omega)) | refine bl ?_ | refine ib ?_ | refine xt ?_ | refine bx (fun b_ => ?_) | refine al (fun b_ => ?_) | refine sr rfl ?_ | refine la rfl ?_ | refine ixa rfl rfl ?_ | refine fe ?_ | refine lde rfl ?_ | refine lae rfl ?_ | refine fa ?_ | refine bld ?_ | refine mf2 ?_ | refine seq ?_ | refine sne ?_ | refine cc ?_ | refine ixb ?_ | refine slb ?_ | refine slbl ?_ | refine slbh ?_ | refine cv ?_ | refine mx ?_ | refine mn ?_ | refine ml ?_ | refine af_ ?_ | (refine gd (fun hc => ?_) (fun hc => ?_) <;> try (exfalso; omega)) | (refine gn (fun hc => ?_) (fun hc => ?_) <;> try (exfalso; omega)) | refine aw ?_ | refine pes ?_ | refine pns ?_ | refine sw ?_ | refine ng ?_ | refine aeq ?_ | refine ane ?_ | refine sli rfl ?_ | refine slil rfl ?_ | refine slih rfl ?_ | refine cb (fun hc => ?_) (fun hc => ?_) | refine gs (fun hc => ?_) (fun hc => ?_))
  all_goals first
    | (refine rt ?_
       exact ⟨_, ⟨_, _, _, _, _, _, _, _, ⟨rfl, hF⟩, rfl⟩, _, by repeat constructor⟩)
    | skip
end Go.Proofs.YtaeefjcbmkiiaaaGreatDoor
