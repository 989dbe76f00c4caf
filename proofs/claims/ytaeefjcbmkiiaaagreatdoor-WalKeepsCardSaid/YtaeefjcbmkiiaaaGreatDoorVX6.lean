/- The log reads a record's payload. -/
import Derived.Test.YtaeefjcbmkiiaaaGreatDoorVX5
import Derived.Scope
import Derived.Sort.OwnSortedInts
import Derived.Lib.SmallJoins
import Derived.Test.YtaeefjcbmkiiaaaGreatDoorRows
import Derived.ProofKit
import Derived.LaidMore
import Derived.Lay
import Derived.OpenShut
import Derived.Stop.Joined
import Derived.Carry
import Derived.Deep.Slices
set_option linter.unusedVariables false
set_option linter.unusedSimpArgs false
namespace Go.Proofs.YtaeefjcbmkiiaaaGreatDoor
open Go Sl
attribute [local irreducible] J JR JS RO CR Arr Sat Tr sat blk
set_option linter.unusedVariables false
set_option linter.unusedSimpArgs false
set_option maxHeartbeats 4000000
set_option maxRecDepth 4000
def LogS.recO (W : LogS) : Option Rec → LogS
  | some r => W.recd r
  | none => W
theorem nums_some (s : List UInt8) (hs : s.length ≤ 9223372036854775807) (k : Nat) (hk : k ≤ 10) {l : List Int} {r : List UInt8} (h : toInts k s = some (l, r)) : Tr Tryz.prog 144 [vs s, .int .i64 k] [] fun v Γ => ∃ lv, v = .tuple #[lv, vs r, .bool true] ∧ Γ = [sl 3 intE lv l] := by
  have := numbers_tr s hs k hk; unfold numsPost at this; rw [h] at this; exact this
theorem nums_none (s : List UInt8) (hs : s.length ≤ 9223372036854775807) (k : Nat) (hk : k ≤ 10) (h : toInts k s = none) : Tr Tryz.prog 144 [vs s, .int .i64 k] [] fun v Γ => v = .tuple #[.slice none 0 0, vs [], .bool false] ∧ Γ = [] := by
  have := numbers_tr s hs k hk; unfold numsPost at this; rw [h] at this; exact this
theorem text_some (s : List UInt8) (hs : s.length ≤ 9223372036854775807) {t r : List UInt8} (h : toText s = some (t, r)) : Tr Tryz.prog 145 [vs s] [] fun v Γ => v = .tuple #[vs t, vs r, .bool true] ∧ Γ = [] := by
  have := toText_tr s hs; rw [h] at this; exact this
theorem text_none (s : List UInt8) (hs : s.length ≤ 9223372036854775807) (h : toText s = none) : Tr Tryz.prog 145 [vs s] [] fun v Γ => v = .tuple #[vs [], vs [], .bool false] ∧ Γ = [] := by
  have := toText_tr s hs; rw [h] at this; exact this
theorem toInts_len : ∀ {k : Nat} {s : List UInt8} {l : List Int} {r : List UInt8}, toInts k s = some (l, r) → r.length ≤ s.length
  | 0, s, l, r, h => by rw [toInts] at h; cases h; exact Nat.le_refl _
  | k + 1, s, l, r, h => by
    rw [toInts] at h
    split at h
    · rename_i n r1 h1
      split at h
      · cases h
      · split at h
        · rename_i l2 r2 h2
          cases h
          have := toInts_len h2
          have := toInt_len h1
          omega
        · cases h
    · cases h
theorem right_is (e : Ent) {b : Bool} (h : e.right = b) : Tr Tryz.prog 57 [entV e] [] fun v Γ => v = .bool b ∧ Γ = [] := by
  have := right_tr e; rw [h] at this; exact this
theorem take_tr (w d : Nat) (W : LogS) (ev sv : Value) (s : List UInt8) (hs : s.length ≤ 9223372036854775807) (hR : Rise W.ents) (hLl : W.ents.length ≤ 100000) (hS : W.segs ≠ []) (hSl : W.segs.length ≤ 1000) :
    Tr Tryz.prog 92 [.pointer (some ⟨w, 0, none⟩), vs s] [blk w (lcell d W.hard ev sv), sl 70 entE ev W.ents, sl 94 segE sv W.segs]
      fun v Γ => ∃ ev', v = .bool (toRec s).isSome ∧ Γ = [blk w (lcell d (W.recO (toRec s)).hard ev' sv), sl 70 entE ev' (W.recO (toRec s)).ents, sl 94 segE sv (W.recO (toRec s)).segs] := by
  refine Tr_of_J Tryz.func92 follows rfl Tryz.ntmps92 (by simp) fun B F => ?_
  cases h1 : toInt s with
  | none =>
    have e : toRec s = none := by unfold toRec; rw [h1]
    rw [e]
    repeat' (first | (refine cle rfl (toInt_none_tr s hs h1) ?_; rintro v Γ' ⟨rfl, rfl⟩; refine n0 ?_) | refine mv ?_ | refine asn ?_ | refine jn ?_ | refine nl ?_ | refine ld rfl ?_ | refine nc ?_ | refine f0 ?_ | refine xt2 ?_ | refine sq ?_ | refine rg ?_ | refine eql ?_ | refine neq ?_ | refine nt ?_ | refine p1 ?_ | refine p0 ?_ | refine sk2 ?_ | refine kp ?_ | refine ct ?_ | refine cf ?_ | (refine cd (fun hc => ?_) (fun hc => ?_) <;> try (exfalso; omega)) | (refine cn (fun hc => ?_) (fun hc => ?_) <;> try (exfalso; omega)) | refine bl ?_ | refine ib ?_ | refine xt ?_ | refine al (fun b_ => ?_) | refine sr rfl ?_ | refine la rfl ?_ | refine ixa rfl rfl ?_ | refine fe ?_ | refine lde rfl ?_ | refine lae rfl ?_ | refine fa ?_ | refine bld ?_ | refine sne ?_ | refine af_ ?_ | (refine gd (fun hc => ?_) (fun hc => ?_) <;> try (exfalso; omega)) | (refine gn (fun hc => ?_) (fun hc => ?_) <;> try (exfalso; omega)) | refine cb (fun hc => ?_) (fun hc => ?_) | refine gs (fun hc => ?_) (fun hc => ?_) | refine J_draw (id := 8) [(0, true, []), (1, true, []), (2, true, []), (3, true, []), (4, true, []), (5, true, []), (6, true, []), (7, true, []), (8, true, []), (9, true, []), (10, false, [])] (by kernel_rfl) ?_ | refine J_draw (id := 17) [(0, true, []), (1, true, []), (2, true, []), (3, true, []), (4, true, []), (5, true, []), (6, true, []), (7, true, []), (8, true, []), (9, true, []), (10, true, []), (11, false, [0, 1, 2, 3, 4, 5, 6, 7, 8, 9, 10]), (12, false, [])] (by kernel_rfl) ?_ | refine JS_cons rfl rfl (RO_move rfl) ?_ | refine JS_cons rfl rfl (RO_nilCheck rfl) ?_ | refine JS_cons rfl rfl (RO_fieldAddr0 rfl) ?_ | refine JS_cons rfl rfl (RO_load rfl (by rfl)) ?_ | refine JS_off rfl ?_ | refine JS_cons rfl rfl (RO_extract rfl rfl) ?_ | refine JS_cons rfl rfl (RO_not rfl) ?_ | refine JS_cons rfl rfl (RO_fieldAddr rfl) ?_ | refine JS_cons rfl rfl (RO_ixa rfl rfl (by omega)) ?_ | refine JS_cons rfl rfl (RO_fe rfl) ?_ | refine JS_cons rfl rfl (RO_lde rfl (by omega) rfl) ?_ | refine JS_offu rfl ?_ | refine JS_cons rfl rfl (RO_bld rfl (by (repeat (first | exact FillS.nil | (apply FillS.cons; rfl; rfl; constructor; rfl; (focus repeat constructor)))))) ?_ | refine JS_cons rfl rfl (RO_lae rfl (by omega) (by repeat constructor)) ?_ | refine JS_cons rfl rfl (RO_loadAgg rfl (by repeat constructor)) ?_ | fail)
    all_goals first
      | exact absurd rfl (by assumption)
      | exact absurd (by assumption) hq
      | exact absurd (by assumption) hu
      | (refine rt ?_
         exact ⟨_, ⟨_, rfl, rfl⟩, _, by repeat constructor⟩)
  | some x =>
    obtain ⟨k, r⟩ := x
    have hr := toInt_len h1
    have hrs : r.length ≤ 9223372036854775807 := by omega
    by_cases k1 : k = 1
    · subst k1
      cases h2 : toInts 2 r with
      | none =>
        have e : toRec s = none := by unfold toRec; rw [h1]; dsimp only; rw [if_pos rfl, h2]
        rw [e]
        repeat' (first | (refine cle rfl (toInt_some_tr s hs h1) ?_; rintro v Γ' ⟨rfl, rfl⟩; refine n0 ?_) | (refine cle rfl (nums_none r hrs 2 (by decide) h2) ?_; rintro v Γ' ⟨rfl, rfl⟩; refine n0 ?_) | refine mv ?_ | refine asn ?_ | refine jn ?_ | refine nl ?_ | refine ld rfl ?_ | refine nc ?_ | refine f0 ?_ | refine xt2 ?_ | refine sq ?_ | refine rg ?_ | refine eql ?_ | refine neq ?_ | refine nt ?_ | refine p1 ?_ | refine p0 ?_ | refine sk2 ?_ | refine kp ?_ | refine ct ?_ | refine cf ?_ | (refine cd (fun hc => ?_) (fun hc => ?_) <;> try (exfalso; omega)) | (refine cn (fun hc => ?_) (fun hc => ?_) <;> try (exfalso; omega)) | refine bl ?_ | refine ib ?_ | refine xt ?_ | refine al (fun b_ => ?_) | refine sr rfl ?_ | refine la rfl ?_ | refine ixa rfl rfl ?_ | refine fe ?_ | refine lde rfl ?_ | refine lae rfl ?_ | refine fa ?_ | refine bld ?_ | refine sne ?_ | refine af_ ?_ | (refine gd (fun hc => ?_) (fun hc => ?_) <;> try (exfalso; omega)) | (refine gn (fun hc => ?_) (fun hc => ?_) <;> try (exfalso; omega)) | refine cb (fun hc => ?_) (fun hc => ?_) | refine gs (fun hc => ?_) (fun hc => ?_) | refine J_draw (id := 8) [(0, true, []), (1, true, []), (2, true, []), (3, true, []), (4, true, []), (5, true, []), (6, true, []), (7, true, []), (8, true, []), (9, true, []), (10, false, [])] (by kernel_rfl) ?_ | refine J_draw (id := 17) [(0, true, []), (1, true, []), (2, true, []), (3, true, []), (4, true, []), (5, true, []), (6, true, []), (7, true, []), (8, true, []), (9, true, []), (10, true, []), (11, false, [0, 1, 2, 3, 4, 5, 6, 7, 8, 9, 10]), (12, false, [])] (by kernel_rfl) ?_ | refine JS_cons rfl rfl (RO_move rfl) ?_ | refine JS_cons rfl rfl (RO_nilCheck rfl) ?_ | refine JS_cons rfl rfl (RO_fieldAddr0 rfl) ?_ | refine JS_cons rfl rfl (RO_load rfl (by rfl)) ?_ | refine JS_off rfl ?_ | refine JS_cons rfl rfl (RO_extract rfl rfl) ?_ | refine JS_cons rfl rfl (RO_not rfl) ?_ | refine JS_cons rfl rfl (RO_fieldAddr rfl) ?_ | refine JS_cons rfl rfl (RO_ixa rfl rfl (by omega)) ?_ | refine JS_cons rfl rfl (RO_fe rfl) ?_ | refine JS_cons rfl rfl (RO_lde rfl (by omega) rfl) ?_ | refine JS_offu rfl ?_ | refine JS_cons rfl rfl (RO_bld rfl (by (repeat (first | exact FillS.nil | (apply FillS.cons; rfl; rfl; constructor; rfl; (focus repeat constructor)))))) ?_ | refine JS_cons rfl rfl (RO_lae rfl (by omega) (by repeat constructor)) ?_ | refine JS_cons rfl rfl (RO_loadAgg rfl (by repeat constructor)) ?_ | fail)
        all_goals first
          | exact absurd rfl (by assumption)
          | exact absurd (by assumption) hq
          | exact absurd (by assumption) hu
          | (refine rt ?_
             exact ⟨_, ⟨_, rfl, rfl⟩, _, by repeat constructor⟩)
      | some y =>
        obtain ⟨l, q⟩ := y
        obtain ⟨hl, hi⟩ := toInts_in h2
        match l, hl with
        | [a, b], _ =>
          by_cases hq : q = []
          · subst hq
            have e : toRec s = some (.hard ⟨a, b⟩) := by unfold toRec; rw [h1]; dsimp only; rw [if_pos rfl, h2]
            rw [e]
            repeat' (first | (refine cle rfl (toInt_some_tr s hs h1) ?_; rintro v Γ' ⟨rfl, rfl⟩; refine n0 ?_) | (refine cle rfl (nums_some r hrs 2 (by decide) h2) ?_; rintro v Γ' ⟨lv, rfl, rfl⟩; refine n1 ?_) | refine mv ?_ | refine asn ?_ | refine jn ?_ | refine nl ?_ | refine ld rfl ?_ | refine nc ?_ | refine f0 ?_ | refine xt2 ?_ | refine sq ?_ | refine rg ?_ | refine eql ?_ | refine neq ?_ | refine nt ?_ | refine p1 ?_ | refine p0 ?_ | refine sk2 ?_ | refine kp ?_ | refine ct ?_ | refine cf ?_ | (refine cd (fun hc => ?_) (fun hc => ?_) <;> try (exfalso; omega)) | (refine cn (fun hc => ?_) (fun hc => ?_) <;> try (exfalso; omega)) | refine bl ?_ | refine ib ?_ | refine xt ?_ | refine al (fun b_ => ?_) | refine sr rfl ?_ | refine la rfl ?_ | refine ixa rfl rfl ?_ | refine fe ?_ | refine lde rfl ?_ | refine lae rfl ?_ | refine fa ?_ | refine bld ?_ | refine sne ?_ | refine af_ ?_ | (refine gd (fun hc => ?_) (fun hc => ?_) <;> try (exfalso; omega)) | (refine gn (fun hc => ?_) (fun hc => ?_) <;> try (exfalso; omega)) | refine cb (fun hc => ?_) (fun hc => ?_) | refine gs (fun hc => ?_) (fun hc => ?_) | refine J_draw (id := 8) [(0, true, []), (1, true, []), (2, true, []), (3, true, []), (4, true, []), (5, true, []), (6, true, []), (7, true, []), (8, true, []), (9, true, []), (10, false, [])] (by kernel_rfl) ?_ | refine J_draw (id := 17) [(0, true, []), (1, true, []), (2, true, []), (3, true, []), (4, true, []), (5, true, []), (6, true, []), (7, true, []), (8, true, []), (9, true, []), (10, true, []), (11, false, [0, 1, 2, 3, 4, 5, 6, 7, 8, 9, 10]), (12, false, [])] (by kernel_rfl) ?_ | refine JS_cons rfl rfl (RO_move rfl) ?_ | refine JS_cons rfl rfl (RO_nilCheck rfl) ?_ | refine JS_cons rfl rfl (RO_fieldAddr0 rfl) ?_ | refine JS_cons rfl rfl (RO_load rfl (by rfl)) ?_ | refine JS_off rfl ?_ | refine JS_cons rfl rfl (RO_extract rfl rfl) ?_ | refine JS_cons rfl rfl (RO_not rfl) ?_ | refine JS_cons rfl rfl (RO_fieldAddr rfl) ?_ | refine JS_cons rfl rfl (RO_ixa rfl rfl (by omega)) ?_ | refine JS_cons rfl rfl (RO_fe rfl) ?_ | refine JS_cons rfl rfl (RO_lde rfl (by omega) rfl) ?_ | refine JS_offu rfl ?_ | refine JS_cons rfl rfl (RO_bld rfl (by (repeat (first | exact FillS.nil | (apply FillS.cons; rfl; rfl; constructor; rfl; (focus repeat constructor)))))) ?_ | refine JS_cons rfl rfl (RO_lae rfl (by omega) (by repeat constructor)) ?_ | refine JS_cons rfl rfl (RO_loadAgg rfl (by repeat constructor)) ?_ | fail)
            all_goals first
              | exact absurd rfl (by assumption)
              | exact absurd (by assumption) hq
              | exact absurd (by assumption) hu
              | (refine rt ?_
                 exact ⟨_, ⟨_, rfl, rfl⟩, _, by repeat constructor⟩)
          · have e : toRec s = none := by
              unfold toRec; rw [h1]; dsimp only; rw [if_pos rfl, h2]
              cases q with
              | nil => exact absurd rfl hq
              | cons x q => rfl
            rw [e]
            repeat' (first | (refine cle rfl (toInt_some_tr s hs h1) ?_; rintro v Γ' ⟨rfl, rfl⟩; refine n0 ?_) | (refine cle rfl (nums_some r hrs 2 (by decide) h2) ?_; rintro v Γ' ⟨lv, rfl, rfl⟩; refine n1 ?_) | refine mv ?_ | refine asn ?_ | refine jn ?_ | refine nl ?_ | refine ld rfl ?_ | refine nc ?_ | refine f0 ?_ | refine xt2 ?_ | refine sq ?_ | refine rg ?_ | refine eql ?_ | refine neq ?_ | refine nt ?_ | refine p1 ?_ | refine p0 ?_ | refine sk2 ?_ | refine kp ?_ | refine ct ?_ | refine cf ?_ | (refine cd (fun hc => ?_) (fun hc => ?_) <;> try (exfalso; omega)) | (refine cn (fun hc => ?_) (fun hc => ?_) <;> try (exfalso; omega)) | refine bl ?_ | refine ib ?_ | refine xt ?_ | refine al (fun b_ => ?_) | refine sr rfl ?_ | refine la rfl ?_ | refine ixa rfl rfl ?_ | refine fe ?_ | refine lde rfl ?_ | refine lae rfl ?_ | refine fa ?_ | refine bld ?_ | refine sne ?_ | refine af_ ?_ | (refine gd (fun hc => ?_) (fun hc => ?_) <;> try (exfalso; omega)) | (refine gn (fun hc => ?_) (fun hc => ?_) <;> try (exfalso; omega)) | refine cb (fun hc => ?_) (fun hc => ?_) | refine gs (fun hc => ?_) (fun hc => ?_) | refine J_draw (id := 8) [(0, true, []), (1, true, []), (2, true, []), (3, true, []), (4, true, []), (5, true, []), (6, true, []), (7, true, []), (8, true, []), (9, true, []), (10, false, [])] (by kernel_rfl) ?_ | refine J_draw (id := 17) [(0, true, []), (1, true, []), (2, true, []), (3, true, []), (4, true, []), (5, true, []), (6, true, []), (7, true, []), (8, true, []), (9, true, []), (10, true, []), (11, false, [0, 1, 2, 3, 4, 5, 6, 7, 8, 9, 10]), (12, false, [])] (by kernel_rfl) ?_ | refine JS_cons rfl rfl (RO_move rfl) ?_ | refine JS_cons rfl rfl (RO_nilCheck rfl) ?_ | refine JS_cons rfl rfl (RO_fieldAddr0 rfl) ?_ | refine JS_cons rfl rfl (RO_load rfl (by rfl)) ?_ | refine JS_off rfl ?_ | refine JS_cons rfl rfl (RO_extract rfl rfl) ?_ | refine JS_cons rfl rfl (RO_not rfl) ?_ | refine JS_cons rfl rfl (RO_fieldAddr rfl) ?_ | refine JS_cons rfl rfl (RO_ixa rfl rfl (by omega)) ?_ | refine JS_cons rfl rfl (RO_fe rfl) ?_ | refine JS_cons rfl rfl (RO_lde rfl (by omega) rfl) ?_ | refine JS_offu rfl ?_ | refine JS_cons rfl rfl (RO_bld rfl (by (repeat (first | exact FillS.nil | (apply FillS.cons; rfl; rfl; constructor; rfl; (focus repeat constructor)))))) ?_ | refine JS_cons rfl rfl (RO_lae rfl (by omega) (by repeat constructor)) ?_ | refine JS_cons rfl rfl (RO_loadAgg rfl (by repeat constructor)) ?_ | fail)
            all_goals first
              | exact absurd rfl (by assumption)
              | exact absurd (by assumption) hq
              | exact absurd (by assumption) hu
              | (refine rt ?_
                 exact ⟨_, ⟨_, rfl, rfl⟩, _, by repeat constructor⟩)
    · by_cases k2 : k = 2
      · subst k2
        cases h2 : toInts 3 r with
        | none =>
          have e : toRec s = none := by unfold toRec; rw [h1]; dsimp only; rw [if_neg (by decide), if_pos rfl, h2]
          rw [e]
          repeat' (first | (refine cle rfl (toInt_some_tr s hs h1) ?_; rintro v Γ' ⟨rfl, rfl⟩; refine n0 ?_) | (refine cle rfl (nums_none r hrs 3 (by decide) h2) ?_; rintro v Γ' ⟨rfl, rfl⟩; refine n0 ?_) | refine mv ?_ | refine asn ?_ | refine jn ?_ | refine nl ?_ | refine ld rfl ?_ | refine nc ?_ | refine f0 ?_ | refine xt2 ?_ | refine sq ?_ | refine rg ?_ | refine eql ?_ | refine neq ?_ | refine nt ?_ | refine p1 ?_ | refine p0 ?_ | refine sk2 ?_ | refine kp ?_ | refine ct ?_ | refine cf ?_ | (refine cd (fun hc => ?_) (fun hc => ?_) <;> try (exfalso; omega)) | (refine cn (fun hc => ?_) (fun hc => ?_) <;> try (exfalso; omega)) | refine bl ?_ | refine ib ?_ | refine xt ?_ | refine al (fun b_ => ?_) | refine sr rfl ?_ | refine la rfl ?_ | refine ixa rfl rfl ?_ | refine fe ?_ | refine lde rfl ?_ | refine lae rfl ?_ | refine fa ?_ | refine bld ?_ | refine sne ?_ | refine af_ ?_ | (refine gd (fun hc => ?_) (fun hc => ?_) <;> try (exfalso; omega)) | (refine gn (fun hc => ?_) (fun hc => ?_) <;> try (exfalso; omega)) | refine cb (fun hc => ?_) (fun hc => ?_) | refine gs (fun hc => ?_) (fun hc => ?_) | refine J_draw (id := 8) [(0, true, []), (1, true, []), (2, true, []), (3, true, []), (4, true, []), (5, true, []), (6, true, []), (7, true, []), (8, true, []), (9, true, []), (10, false, [])] (by kernel_rfl) ?_ | refine J_draw (id := 17) [(0, true, []), (1, true, []), (2, true, []), (3, true, []), (4, true, []), (5, true, []), (6, true, []), (7, true, []), (8, true, []), (9, true, []), (10, true, []), (11, false, [0, 1, 2, 3, 4, 5, 6, 7, 8, 9, 10]), (12, false, [])] (by kernel_rfl) ?_ | refine JS_cons rfl rfl (RO_move rfl) ?_ | refine JS_cons rfl rfl (RO_nilCheck rfl) ?_ | refine JS_cons rfl rfl (RO_fieldAddr0 rfl) ?_ | refine JS_cons rfl rfl (RO_load rfl (by rfl)) ?_ | refine JS_off rfl ?_ | refine JS_cons rfl rfl (RO_extract rfl rfl) ?_ | refine JS_cons rfl rfl (RO_not rfl) ?_ | refine JS_cons rfl rfl (RO_fieldAddr rfl) ?_ | refine JS_cons rfl rfl (RO_ixa rfl rfl (by omega)) ?_ | refine JS_cons rfl rfl (RO_fe rfl) ?_ | refine JS_cons rfl rfl (RO_lde rfl (by omega) rfl) ?_ | refine JS_offu rfl ?_ | refine JS_cons rfl rfl (RO_bld rfl (by (repeat (first | exact FillS.nil | (apply FillS.cons; rfl; rfl; constructor; rfl; (focus repeat constructor)))))) ?_ | refine JS_cons rfl rfl (RO_lae rfl (by omega) (by repeat constructor)) ?_ | refine JS_cons rfl rfl (RO_loadAgg rfl (by repeat constructor)) ?_ | fail)
          all_goals first
            | exact absurd rfl (by assumption)
            | exact absurd (by assumption) hq
            | exact absurd (by assumption) hu
            | (refine rt ?_
               exact ⟨_, ⟨_, rfl, rfl⟩, _, by repeat constructor⟩)
        | some y =>
          obtain ⟨l, q⟩ := y
          obtain ⟨hl, hi⟩ := toInts_in h2
          have hql := toInts_len h2
          have hqs : q.length ≤ 9223372036854775807 := by omega
          match l, hl with
          | [a, b, c], _ =>
            cases h3 : toText q with
            | none =>
              have e : toRec s = none := by unfold toRec; rw [h1]; dsimp only; rw [if_neg (by decide), if_pos rfl, h2]; dsimp only; rw [h3]
              rw [e]
              repeat' (first | (refine cle rfl (toInt_some_tr s hs h1) ?_; rintro v Γ' ⟨rfl, rfl⟩; refine n0 ?_) | (refine cle rfl (nums_some r hrs 3 (by decide) h2) ?_; rintro v Γ' ⟨lv, rfl, rfl⟩; refine n1 ?_) | (refine cle rfl (text_none q hqs h3) ?_; rintro v Γ' ⟨rfl, rfl⟩; refine n0 ?_) | refine mv ?_ | refine asn ?_ | refine jn ?_ | refine nl ?_ | refine ld rfl ?_ | refine nc ?_ | refine f0 ?_ | refine xt2 ?_ | refine sq ?_ | refine rg ?_ | refine eql ?_ | refine neq ?_ | refine nt ?_ | refine p1 ?_ | refine p0 ?_ | refine sk2 ?_ | refine kp ?_ | refine ct ?_ | refine cf ?_ | (refine cd (fun hc => ?_) (fun hc => ?_) <;> try (exfalso; omega)) | (refine cn (fun hc => ?_) (fun hc => ?_) <;> try (exfalso; omega)) | refine bl ?_ | refine ib ?_ | refine xt ?_ | refine al (fun b_ => ?_) | refine sr rfl ?_ | refine la rfl ?_ | refine ixa rfl rfl ?_ | refine fe ?_ | refine lde rfl ?_ | refine lae rfl ?_ | refine fa ?_ | refine bld ?_ | refine sne ?_ | refine af_ ?_ | (refine gd (fun hc => ?_) (fun hc => ?_) <;> try (exfalso; omega)) | (refine gn (fun hc => ?_) (fun hc => ?_) <;> try (exfalso; omega)) | refine cb (fun hc => ?_) (fun hc => ?_) | refine gs (fun hc => ?_) (fun hc => ?_) | refine J_draw (id := 8) [(0, true, []), (1, true, []), (2, true, []), (3, true, []), (4, true, []), (5, true, []), (6, true, []), (7, true, []), (8, true, []), (9, true, []), (10, false, [])] (by kernel_rfl) ?_ | refine J_draw (id := 17) [(0, true, []), (1, true, []), (2, true, []), (3, true, []), (4, true, []), (5, true, []), (6, true, []), (7, true, []), (8, true, []), (9, true, []), (10, true, []), (11, false, [0, 1, 2, 3, 4, 5, 6, 7, 8, 9, 10]), (12, false, [])] (by kernel_rfl) ?_ | refine JS_cons rfl rfl (RO_move rfl) ?_ | refine JS_cons rfl rfl (RO_nilCheck rfl) ?_ | refine JS_cons rfl rfl (RO_fieldAddr0 rfl) ?_ | refine JS_cons rfl rfl (RO_load rfl (by rfl)) ?_ | refine JS_off rfl ?_ | refine JS_cons rfl rfl (RO_extract rfl rfl) ?_ | refine JS_cons rfl rfl (RO_not rfl) ?_ | refine JS_cons rfl rfl (RO_fieldAddr rfl) ?_ | refine JS_cons rfl rfl (RO_ixa rfl rfl (by omega)) ?_ | refine JS_cons rfl rfl (RO_fe rfl) ?_ | refine JS_cons rfl rfl (RO_lde rfl (by omega) rfl) ?_ | refine JS_offu rfl ?_ | refine JS_cons rfl rfl (RO_bld rfl (by (repeat (first | exact FillS.nil | (apply FillS.cons; rfl; rfl; constructor; rfl; (focus repeat constructor)))))) ?_ | refine JS_cons rfl rfl (RO_lae rfl (by omega) (by repeat constructor)) ?_ | refine JS_cons rfl rfl (RO_loadAgg rfl (by repeat constructor)) ?_ | fail)
              all_goals first
                | exact absurd rfl (by assumption)
                | exact absurd (by assumption) hq
                | exact absurd (by assumption) hu
                | (refine rt ?_
                   exact ⟨_, ⟨_, rfl, rfl⟩, _, by repeat constructor⟩)
            | some z =>
              obtain ⟨t, u⟩ := z
              by_cases hu : u = []
              · subst hu
                cases hrt : Ent.right ⟨a, b, c, t⟩ with
                | false =>
                  have e : toRec s = none := by unfold toRec; rw [h1]; dsimp only; rw [if_neg (by decide), if_pos rfl, h2]; dsimp only; rw [h3]; dsimp only; rw [hrt]; rfl
                  rw [e]
                  repeat' (first | (refine cle rfl (toInt_some_tr s hs h1) ?_; rintro v Γ' ⟨rfl, rfl⟩; refine n0 ?_) | (refine cle rfl (nums_some r hrs 3 (by decide) h2) ?_; rintro v Γ' ⟨lv, rfl, rfl⟩; refine n1 ?_) | (refine cle rfl (text_some q hqs h3) ?_; rintro v Γ' ⟨rfl, rfl⟩; refine n0 ?_) | (refine cle rfl (right_is ⟨a, b, c, t⟩ hrt) ?_; rintro v Γ' ⟨rfl, rfl⟩; refine n0 ?_) | refine mv ?_ | refine asn ?_ | refine jn ?_ | refine nl ?_ | refine ld rfl ?_ | refine nc ?_ | refine f0 ?_ | refine xt2 ?_ | refine sq ?_ | refine rg ?_ | refine eql ?_ | refine neq ?_ | refine nt ?_ | refine p1 ?_ | refine p0 ?_ | refine sk2 ?_ | refine kp ?_ | refine ct ?_ | refine cf ?_ | (refine cd (fun hc => ?_) (fun hc => ?_) <;> try (exfalso; omega)) | (refine cn (fun hc => ?_) (fun hc => ?_) <;> try (exfalso; omega)) | refine bl ?_ | refine ib ?_ | refine xt ?_ | refine al (fun b_ => ?_) | refine sr rfl ?_ | refine la rfl ?_ | refine ixa rfl rfl ?_ | refine fe ?_ | refine lde rfl ?_ | refine lae rfl ?_ | refine fa ?_ | refine bld ?_ | refine sne ?_ | refine af_ ?_ | (refine gd (fun hc => ?_) (fun hc => ?_) <;> try (exfalso; omega)) | (refine gn (fun hc => ?_) (fun hc => ?_) <;> try (exfalso; omega)) | refine cb (fun hc => ?_) (fun hc => ?_) | refine gs (fun hc => ?_) (fun hc => ?_) | refine J_draw (id := 8) [(0, true, []), (1, true, []), (2, true, []), (3, true, []), (4, true, []), (5, true, []), (6, true, []), (7, true, []), (8, true, []), (9, true, []), (10, false, [])] (by kernel_rfl) ?_ | refine J_draw (id := 17) [(0, true, []), (1, true, []), (2, true, []), (3, true, []), (4, true, []), (5, true, []), (6, true, []), (7, true, []), (8, true, []), (9, true, []), (10, true, []), (11, false, [0, 1, 2, 3, 4, 5, 6, 7, 8, 9, 10]), (12, false, [])] (by kernel_rfl) ?_ | refine JS_cons rfl rfl (RO_move rfl) ?_ | refine JS_cons rfl rfl (RO_nilCheck rfl) ?_ | refine JS_cons rfl rfl (RO_fieldAddr0 rfl) ?_ | refine JS_cons rfl rfl (RO_load rfl (by rfl)) ?_ | refine JS_off rfl ?_ | refine JS_cons rfl rfl (RO_extract rfl rfl) ?_ | refine JS_cons rfl rfl (RO_not rfl) ?_ | refine JS_cons rfl rfl (RO_fieldAddr rfl) ?_ | refine JS_cons rfl rfl (RO_ixa rfl rfl (by omega)) ?_ | refine JS_cons rfl rfl (RO_fe rfl) ?_ | refine JS_cons rfl rfl (RO_lde rfl (by omega) rfl) ?_ | refine JS_offu rfl ?_ | refine JS_cons rfl rfl (RO_bld rfl (by (repeat (first | exact FillS.nil | (apply FillS.cons; rfl; rfl; constructor; rfl; (focus repeat constructor)))))) ?_ | refine JS_cons rfl rfl (RO_lae rfl (by omega) (by repeat constructor)) ?_ | refine JS_cons rfl rfl (RO_loadAgg rfl (by repeat constructor)) ?_ | fail)
                  all_goals first
                    | exact absurd rfl (by assumption)
                    | exact absurd (by assumption) hq
                    | exact absurd (by assumption) hu
                    | (refine rt ?_
                       exact ⟨_, ⟨_, rfl, rfl⟩, _, by repeat constructor⟩)
                | true =>
                  have e : toRec s = some (.ent ⟨a, b, c, t⟩) := by unfold toRec; rw [h1]; dsimp only; rw [if_neg (by decide), if_pos rfl, h2]; dsimp only; rw [h3]; dsimp only; rw [hrt]; rfl
                  have hin : (⟨a, b, c, t⟩ : Ent).In := ⟨(hi a (by simp)).2, (hi b (by simp)).2, (hi c (by simp)).2⟩
                  have hpos : 0 < a := by
                    have := hrt
                    simp only [Ent.right, Bool.and_eq_true, decide_eq_true_eq] at this
                    exact this.1.1.1
                  rw [e]
                  repeat' (first | (refine cle rfl (toInt_some_tr s hs h1) ?_; rintro v Γ' ⟨rfl, rfl⟩; refine n0 ?_) | (refine cle rfl (nums_some r hrs 3 (by decide) h2) ?_; rintro v Γ' ⟨lv, rfl, rfl⟩; refine n1 ?_) | (refine cle rfl (text_some q hqs h3) ?_; rintro v Γ' ⟨rfl, rfl⟩; refine n0 ?_) | (refine cle rfl (right_is ⟨a, b, c, t⟩ hrt) ?_; rintro v Γ' ⟨rfl, rfl⟩; refine n0 ?_) | (refine cle rfl (put_tr w d W.hard ev sv W.ents W.segs ⟨a, b, c, t⟩ hin hpos hR hS (by omega) (by omega)) ?_; rintro v Γ' ⟨ev2, rfl⟩; refine n3 ?_) | refine mv ?_ | refine asn ?_ | refine jn ?_ | refine nl ?_ | refine ld rfl ?_ | refine nc ?_ | refine f0 ?_ | refine xt2 ?_ | refine sq ?_ | refine rg ?_ | refine eql ?_ | refine neq ?_ | refine nt ?_ | refine p1 ?_ | refine p0 ?_ | refine sk2 ?_ | refine kp ?_ | refine ct ?_ | refine cf ?_ | (refine cd (fun hc => ?_) (fun hc => ?_) <;> try (exfalso; omega)) | (refine cn (fun hc => ?_) (fun hc => ?_) <;> try (exfalso; omega)) | refine bl ?_ | refine ib ?_ | refine xt ?_ | refine al (fun b_ => ?_) | refine sr rfl ?_ | refine la rfl ?_ | refine ixa rfl rfl ?_ | refine fe ?_ | refine lde rfl ?_ | refine lae rfl ?_ | refine fa ?_ | refine bld ?_ | refine sne ?_ | refine af_ ?_ | (refine gd (fun hc => ?_) (fun hc => ?_) <;> try (exfalso; omega)) | (refine gn (fun hc => ?_) (fun hc => ?_) <;> try (exfalso; omega)) | refine cb (fun hc => ?_) (fun hc => ?_) | refine gs (fun hc => ?_) (fun hc => ?_) | refine J_draw (id := 8) [(0, true, []), (1, true, []), (2, true, []), (3, true, []), (4, true, []), (5, true, []), (6, true, []), (7, true, []), (8, true, []), (9, true, []), (10, false, [])] (by kernel_rfl) ?_ | refine J_draw (id := 17) [(0, true, []), (1, true, []), (2, true, []), (3, true, []), (4, true, []), (5, true, []), (6, true, []), (7, true, []), (8, true, []), (9, true, []), (10, true, []), (11, false, [0, 1, 2, 3, 4, 5, 6, 7, 8, 9, 10]), (12, false, [])] (by kernel_rfl) ?_ | refine JS_cons rfl rfl (RO_move rfl) ?_ | refine JS_cons rfl rfl (RO_nilCheck rfl) ?_ | refine JS_cons rfl rfl (RO_fieldAddr0 rfl) ?_ | refine JS_cons rfl rfl (RO_load rfl (by rfl)) ?_ | refine JS_off rfl ?_ | refine JS_cons rfl rfl (RO_extract rfl rfl) ?_ | refine JS_cons rfl rfl (RO_not rfl) ?_ | refine JS_cons rfl rfl (RO_fieldAddr rfl) ?_ | refine JS_cons rfl rfl (RO_ixa rfl rfl (by omega)) ?_ | refine JS_cons rfl rfl (RO_fe rfl) ?_ | refine JS_cons rfl rfl (RO_lde rfl (by omega) rfl) ?_ | refine JS_offu rfl ?_ | refine JS_cons rfl rfl (RO_bld rfl (by (repeat (first | exact FillS.nil | (apply FillS.cons; rfl; rfl; constructor; rfl; (focus repeat constructor)))))) ?_ | refine JS_cons rfl rfl (RO_lae rfl (by omega) (by repeat constructor)) ?_ | refine JS_cons rfl rfl (RO_loadAgg rfl (by repeat constructor)) ?_ | fail)
                  all_goals first
                    | exact absurd rfl (by assumption)
                    | exact absurd (by assumption) hq
                    | exact absurd (by assumption) hu
                    | (refine rt ?_
                       exact ⟨_, ⟨_, rfl, rfl⟩, _, by repeat constructor⟩)
              · have e : toRec s = none := by
                  unfold toRec; rw [h1]; dsimp only; rw [if_neg (by decide), if_pos rfl, h2]; dsimp only; rw [h3]
                  cases u with
                  | nil => exact absurd rfl hu
                  | cons x q => rfl
                rw [e]
                repeat' (first | (refine cle rfl (toInt_some_tr s hs h1) ?_; rintro v Γ' ⟨rfl, rfl⟩; refine n0 ?_) | (refine cle rfl (nums_some r hrs 3 (by decide) h2) ?_; rintro v Γ' ⟨lv, rfl, rfl⟩; refine n1 ?_) | (refine cle rfl (text_some q hqs h3) ?_; rintro v Γ' ⟨rfl, rfl⟩; refine n0 ?_) | refine mv ?_ | refine asn ?_ | refine jn ?_ | refine nl ?_ | refine ld rfl ?_ | refine nc ?_ | refine f0 ?_ | refine xt2 ?_ | refine sq ?_ | refine rg ?_ | refine eql ?_ | refine neq ?_ | refine nt ?_ | refine p1 ?_ | refine p0 ?_ | refine sk2 ?_ | refine kp ?_ | refine ct ?_ | refine cf ?_ | (refine cd (fun hc => ?_) (fun hc => ?_) <;> try (exfalso; omega)) | (refine cn (fun hc => ?_) (fun hc => ?_) <;> try (exfalso; omega)) | refine bl ?_ | refine ib ?_ | refine xt ?_ | refine al (fun b_ => ?_) | refine sr rfl ?_ | refine la rfl ?_ | refine ixa rfl rfl ?_ | refine fe ?_ | refine lde rfl ?_ | refine lae rfl ?_ | refine fa ?_ | refine bld ?_ | refine sne ?_ | refine af_ ?_ | (refine gd (fun hc => ?_) (fun hc => ?_) <;> try (exfalso; omega)) | (refine gn (fun hc => ?_) (fun hc => ?_) <;> try (exfalso; omega)) | refine cb (fun hc => ?_) (fun hc => ?_) | refine gs (fun hc => ?_) (fun hc => ?_) | refine J_draw (id := 8) [(0, true, []), (1, true, []), (2, true, []), (3, true, []), (4, true, []), (5, true, []), (6, true, []), (7, true, []), (8, true, []), (9, true, []), (10, false, [])] (by kernel_rfl) ?_ | refine J_draw (id := 17) [(0, true, []), (1, true, []), (2, true, []), (3, true, []), (4, true, []), (5, true, []), (6, true, []), (7, true, []), (8, true, []), (9, true, []), (10, true, []), (11, false, [0, 1, 2, 3, 4, 5, 6, 7, 8, 9, 10]), (12, false, [])] (by kernel_rfl) ?_ | refine JS_cons rfl rfl (RO_move rfl) ?_ | refine JS_cons rfl rfl (RO_nilCheck rfl) ?_ | refine JS_cons rfl rfl (RO_fieldAddr0 rfl) ?_ | refine JS_cons rfl rfl (RO_load rfl (by rfl)) ?_ | refine JS_off rfl ?_ | refine JS_cons rfl rfl (RO_extract rfl rfl) ?_ | refine JS_cons rfl rfl (RO_not rfl) ?_ | refine JS_cons rfl rfl (RO_fieldAddr rfl) ?_ | refine JS_cons rfl rfl (RO_ixa rfl rfl (by omega)) ?_ | refine JS_cons rfl rfl (RO_fe rfl) ?_ | refine JS_cons rfl rfl (RO_lde rfl (by omega) rfl) ?_ | refine JS_offu rfl ?_ | refine JS_cons rfl rfl (RO_bld rfl (by (repeat (first | exact FillS.nil | (apply FillS.cons; rfl; rfl; constructor; rfl; (focus repeat constructor)))))) ?_ | refine JS_cons rfl rfl (RO_lae rfl (by omega) (by repeat constructor)) ?_ | refine JS_cons rfl rfl (RO_loadAgg rfl (by repeat constructor)) ?_ | fail)
                all_goals first
                  | exact absurd rfl (by assumption)
                  | exact absurd (by assumption) hq
                  | exact absurd (by assumption) hu
                  | (refine rt ?_
                     exact ⟨_, ⟨_, rfl, rfl⟩, _, by repeat constructor⟩)
      · by_cases k3 : k = 3 ∧ r = []
        · obtain ⟨rfl, rfl⟩ := k3
          have e : toRec s = some .reset := by unfold toRec; rw [h1]; rfl
          rw [e]
          repeat' (first | (refine cle rfl (toInt_some_tr s hs h1) ?_; rintro v Γ' ⟨rfl, rfl⟩; refine n0 ?_) | refine mv ?_ | refine asn ?_ | refine jn ?_ | refine nl ?_ | refine ld rfl ?_ | refine nc ?_ | refine f0 ?_ | refine xt2 ?_ | refine sq ?_ | refine rg ?_ | refine eql ?_ | refine neq ?_ | refine nt ?_ | refine p1 ?_ | refine p0 ?_ | refine sk2 ?_ | refine kp ?_ | refine ct ?_ | refine cf ?_ | (refine cd (fun hc => ?_) (fun hc => ?_) <;> try (exfalso; omega)) | (refine cn (fun hc => ?_) (fun hc => ?_) <;> try (exfalso; omega)) | refine bl ?_ | refine ib ?_ | refine xt ?_ | refine al (fun b_ => ?_) | refine sr rfl ?_ | refine la rfl ?_ | refine ixa rfl rfl ?_ | refine fe ?_ | refine lde rfl ?_ | refine lae rfl ?_ | refine fa ?_ | refine bld ?_ | refine sne ?_ | refine af_ ?_ | (refine gd (fun hc => ?_) (fun hc => ?_) <;> try (exfalso; omega)) | (refine gn (fun hc => ?_) (fun hc => ?_) <;> try (exfalso; omega)) | refine cb (fun hc => ?_) (fun hc => ?_) | refine gs (fun hc => ?_) (fun hc => ?_) | refine J_draw (id := 8) [(0, true, []), (1, true, []), (2, true, []), (3, true, []), (4, true, []), (5, true, []), (6, true, []), (7, true, []), (8, true, []), (9, true, []), (10, false, [])] (by kernel_rfl) ?_ | refine J_draw (id := 17) [(0, true, []), (1, true, []), (2, true, []), (3, true, []), (4, true, []), (5, true, []), (6, true, []), (7, true, []), (8, true, []), (9, true, []), (10, true, []), (11, false, [0, 1, 2, 3, 4, 5, 6, 7, 8, 9, 10]), (12, false, [])] (by kernel_rfl) ?_ | refine JS_cons rfl rfl (RO_move rfl) ?_ | refine JS_cons rfl rfl (RO_nilCheck rfl) ?_ | refine JS_cons rfl rfl (RO_fieldAddr0 rfl) ?_ | refine JS_cons rfl rfl (RO_load rfl (by rfl)) ?_ | refine JS_off rfl ?_ | refine JS_cons rfl rfl (RO_extract rfl rfl) ?_ | refine JS_cons rfl rfl (RO_not rfl) ?_ | refine JS_cons rfl rfl (RO_fieldAddr rfl) ?_ | refine JS_cons rfl rfl (RO_ixa rfl rfl (by omega)) ?_ | refine JS_cons rfl rfl (RO_fe rfl) ?_ | refine JS_cons rfl rfl (RO_lde rfl (by omega) rfl) ?_ | refine JS_offu rfl ?_ | refine JS_cons rfl rfl (RO_bld rfl (by (repeat (first | exact FillS.nil | (apply FillS.cons; rfl; rfl; constructor; rfl; (focus repeat constructor)))))) ?_ | refine JS_cons rfl rfl (RO_lae rfl (by omega) (by repeat constructor)) ?_ | refine JS_cons rfl rfl (RO_loadAgg rfl (by repeat constructor)) ?_ | fail)
          all_goals first
            | exact absurd rfl (by assumption)
            | (refine J_sat (Γ' := sl 70 entE (.slice none 0 0) [] :: _) ?_ fun w hS => sl_nil hS
               refine rt ?_
               exact ⟨_, ⟨_, rfl, rfl⟩, _, by repeat constructor⟩)
        · have e : toRec s = none := by unfold toRec; rw [h1]; dsimp only; rw [if_neg k1, if_neg k2, if_neg k3]
          rw [e]
          repeat' (first | (refine cle rfl (toInt_some_tr s hs h1) ?_; rintro v Γ' ⟨rfl, rfl⟩; refine n0 ?_) | refine mv ?_ | refine asn ?_ | refine jn ?_ | refine nl ?_ | refine ld rfl ?_ | refine nc ?_ | refine f0 ?_ | refine xt2 ?_ | refine sq ?_ | refine rg ?_ | refine eql ?_ | refine neq ?_ | refine nt ?_ | refine p1 ?_ | refine p0 ?_ | refine sk2 ?_ | refine kp ?_ | refine ct ?_ | refine cf ?_ | (refine cd (fun hc => ?_) (fun hc => ?_) <;> try (exfalso; omega)) | (refine cn (fun hc => ?_) (fun hc => ?_) <;> try (exfalso; omega)) | refine bl ?_ | refine ib ?_ | refine xt ?_ | refine al (fun b_ => ?_) | refine sr rfl ?_ | refine la rfl ?_ | refine ixa rfl rfl ?_ | refine fe ?_ | refine lde rfl ?_ | refine lae rfl ?_ | refine fa ?_ | refine bld ?_ | refine sne ?_ | refine af_ ?_ | (refine gd (fun hc => ?_) (fun hc => ?_) <;> try (exfalso; omega)) | (refine gn (fun hc => ?_) (fun hc => ?_) <;> try (exfalso; omega)) | refine cb (fun hc => ?_) (fun hc => ?_) | refine gs (fun hc => ?_) (fun hc => ?_) | refine J_draw (id := 8) [(0, true, []), (1, true, []), (2, true, []), (3, true, []), (4, true, []), (5, true, []), (6, true, []), (7, true, []), (8, true, []), (9, true, []), (10, false, [])] (by kernel_rfl) ?_ | refine J_draw (id := 17) [(0, true, []), (1, true, []), (2, true, []), (3, true, []), (4, true, []), (5, true, []), (6, true, []), (7, true, []), (8, true, []), (9, true, []), (10, true, []), (11, false, [0, 1, 2, 3, 4, 5, 6, 7, 8, 9, 10]), (12, false, [])] (by kernel_rfl) ?_ | refine JS_cons rfl rfl (RO_move rfl) ?_ | refine JS_cons rfl rfl (RO_nilCheck rfl) ?_ | refine JS_cons rfl rfl (RO_fieldAddr0 rfl) ?_ | refine JS_cons rfl rfl (RO_load rfl (by rfl)) ?_ | refine JS_off rfl ?_ | refine JS_cons rfl rfl (RO_extract rfl rfl) ?_ | refine JS_cons rfl rfl (RO_not rfl) ?_ | refine JS_cons rfl rfl (RO_fieldAddr rfl) ?_ | refine JS_cons rfl rfl (RO_ixa rfl rfl (by omega)) ?_ | refine JS_cons rfl rfl (RO_fe rfl) ?_ | refine JS_cons rfl rfl (RO_lde rfl (by omega) rfl) ?_ | refine JS_offu rfl ?_ | refine JS_cons rfl rfl (RO_bld rfl (by (repeat (first | exact FillS.nil | (apply FillS.cons; rfl; rfl; constructor; rfl; (focus repeat constructor)))))) ?_ | refine JS_cons rfl rfl (RO_lae rfl (by omega) (by repeat constructor)) ?_ | refine JS_cons rfl rfl (RO_loadAgg rfl (by repeat constructor)) ?_ | fail)
          all_goals first
            | (refine rt ?_
               exact ⟨_, ⟨_, rfl, rfl⟩, _, by repeat constructor⟩)
            | (exfalso; exact k3 ⟨by omega, by assumption⟩)
end Go.Proofs.YtaeefjcbmkiiaaaGreatDoor
/- The disk: truncate. -/
namespace Go.Proofs.YtaeefjcbmkiiaaaGreatDoor
open Go Sl
attribute [local irreducible] J JR JS RO CR Arr Sat Tr sat blk
set_option linter.unusedVariables false
set_option linter.unusedSimpArgs false
set_option maxHeartbeats 400000
set_option maxRecDepth 4000
abbrev bx3 (d b2 b3 b4 : Nat) (n : Nm) (k : Int) : List Assn := [blk b2 (.cells ⟨[.pointer (some ⟨d, 0, none⟩)]⟩ 35 (0, 0)), blk b3 (.cells ⟨[vs n]⟩ 9 (0, 0)), blk b4 (.cells ⟨[.int .i64 k]⟩ 3 (0, 0))]
def trCheck (k : Int) (f : FileS) : Int := if k < 0 ∨ (f.bytes.length : Int) < k then 2 else 0
theorem trunc1_tr (d b2 b3 b4 : Nat) (n : Nm) (k : Int) (f : FileS) :
    Tr Tryz.prog 146 [fileE f, .pointer (some ⟨b4, 0, none⟩)] [all (bx3 d b2 b3 b4 n k)]
      fun v Γ => v = .int .i64 (trCheck k f) ∧ Γ = [all (bx3 d b2 b3 b4 n k)] := by
  refine (Tr.shut_all ?_).open_all
  refine Tr_of_J Tryz.func146 follows rfl Tryz.ntmps146 (by simp) fun B F => ?_
  simp only [List.cons_append, List.nil_append]
  repeat' (first | refine mv ?_ | refine asn ?_ | refine jn ?_ | refine nl ?_ | refine ld rfl ?_ | refine f0 ?_ | refine sq ?_ | refine rg ?_ | refine lnb ?_ | refine lls rfl ?_ | refine lss ?_ | refine gtr ?_ | refine p1 ?_ | refine p0 ?_ | refine sk2 ?_ | refine kp ?_ | refine ct ?_ | refine cf ?_ | (refine cd (fun hc => ?_) (fun hc => ?_) <;> try (exfalso; omega)) | (refine cn (fun hc => ?_) (fun hc => ?_) <;> try (exfalso; omega)) | refine bl ?_ | refine ib ?_ | refine xt ?_ | refine bx (fun b_ => ?_) | refine la rfl ?_ | refine fe ?_ | refine lde rfl ?_ | refine lae rfl ?_ | refine fa ?_ | refine af_ ?_ | (refine gd (fun hc => ?_) (fun hc => ?_) <;> try (exfalso; omega)) | (refine gn (fun hc => ?_) (fun hc => ?_) <;> try (exfalso; omega)) | refine cb (fun hc => ?_) (fun hc => ?_) | refine gs (fun hc => ?_) (fun hc => ?_))
  · refine rt ?_
    rw [show trCheck k f = 2 from if_pos (.inl hc)]
    exact ⟨_, ⟨rfl, rfl⟩, _, by repeat constructor⟩
  · refine rt ?_
    rw [show trCheck k f = 2 from if_pos (.inr hc)]
    exact ⟨_, ⟨rfl, rfl⟩, _, by repeat constructor⟩
  · refine rt ?_
    rw [show trCheck k f = 0 from if_neg fun hx => by rcases hx with hx | hx <;> contradiction]
    exact ⟨_, ⟨rfl, rfl⟩, _, by repeat constructor⟩
theorem trunc2_tr (d m b2 b3 b4 : Nat) (D : DiskS) (n : Nm) (k : Int) (f : FileS) (hk : trCheck k f = 0) :
    Tr Tryz.prog 147 [fileE f, .pointer (some ⟨b4, 0, none⟩), .pointer (some ⟨b2, 0, none⟩), .pointer (some ⟨b3, 0, none⟩)] (all (bx3 d b2 b3 b4 n k) :: [blk d (dcell m D), mp fmap m D.files])
      fun v Γ => Γ = all (bx3 d b2 b3 b4 n k) :: [blk d (dcell m D), mp fmap m (aput D.files n ⟨f.bytes.take k.toNat, min f.synced k⟩)] := by
  have hk0 : 0 ≤ k := by unfold trCheck at hk; split at hk <;> omega
  have hk1 : k ≤ (f.bytes.length : Int) := by unfold trCheck at hk; split at hk <;> omega
  obtain ⟨q, rfl⟩ := Int.eq_ofNat_of_zero_le hk0
  refine (Tr.shut_all' ?_).open_all
  refine Tr_of_J Tryz.func147 follows rfl Tryz.ntmps147 (by simp) fun B F => ?_
  simp only [List.cons_append, List.nil_append]
  repeat' (first | refine mpu (q := n) (xv := ⟨f.bytes.take q, min f.synced q⟩) rfl rfl rfl rfl ?_ | refine jn ?_ | refine nl ?_ | refine ld rfl ?_ | refine nc ?_ | refine f0 ?_ | refine sq ?_ | refine rg ?_ | refine kp ?_ | refine ct ?_ | refine cf ?_ | (refine cd (fun hc => ?_) (fun hc => ?_) <;> try (exfalso; omega)) | (refine cn (fun hc => ?_) (fun hc => ?_) <;> try (exfalso; omega)) | refine bl ?_ | refine ib ?_ | refine xt ?_ | refine bx (fun b_ => ?_) | refine la rfl ?_ | refine fe ?_ | refine lde rfl ?_ | refine lae rfl ?_ | refine fa ?_ | refine bld ?_ | refine slb ?_ | refine slbl ?_ | refine slbh ?_ | refine mn ?_ | refine sli rfl ?_ | refine slil rfl ?_ | refine slih rfl ?_ | refine cb (fun hc => ?_) (fun hc => ?_) | refine J_draw (id := 1) [(0, true, []), (1, true, []), (2, true, []), (3, true, []), (4, true, []), (5, true, []), (6, true, []), (7, true, []), (8, true, []), (9, true, []), (10, true, []), (11, true, []), (12, true, []), (13, true, []), (14, false, [])] (by kernel_rfl) ?_)
  refine rte ?_
  exact ⟨_, rfl, _, by repeat constructor⟩
theorem truncate_tr (d m : Nat) (D : DiskS) (h : D.Ok) (n : Nm) (k : Int) :
    Tr Tryz.prog 93 [.pointer (some ⟨d, 0, none⟩), vs n, .int .i64 k] [blk d (dcell m D), mp fmap m D.files]
      fun v Γ => v = .int .i64 (D.truncate n k).1 ∧ Γ = [blk d (dcell m (D.truncate n k).2), mp fmap m (D.truncate n k).2.files] := by
  refine Tr_of_J Tryz.func93 follows rfl Tryz.ntmps93 (by simp) fun B F => ?_
  repeat' (first | refine asn ?_ | refine jn ?_ | refine nl ?_ | refine ld rfl ?_ | refine sq ?_ | refine rg ?_ | refine kp ?_ | refine ct ?_ | refine cf ?_ | (refine cd (fun hc => ?_) (fun hc => ?_) <;> try (exfalso; omega)) | (refine cn (fun hc => ?_) (fun hc => ?_) <;> try (exfalso; omega)) | refine bl ?_ | refine ib ?_ | refine xt ?_ | refine bx (fun b_ => ?_) | refine la rfl ?_ | refine lde rfl ?_ | refine lae rfl ?_ | refine mf2 ?_ | refine af_ ?_ | refine cb (fun hc => ?_) (fun hc => ?_))
  rename_i b2 b3
  refine JR_sat (Γ' := [all (bx3 d b2 b3 b_ n k), blk d (dcell m D), mp fmap m D.files]) ?_ fun w hS => Sat.all_close (hS.perm ((List.Perm.swap _ _ _).trans (.trans (.cons _ (.swap _ _ _)) (.swap _ _ _))))
  refine cl (does_tr d m D h n 146 147 [.pointer (some ⟨b_, 0, none⟩)] [.pointer (some ⟨b_, 0, none⟩), .pointer (some ⟨b2, 0, none⟩), .pointer (some ⟨b3, 0, none⟩)] _ (trCheck k) (fun f l => aput l n ⟨f.bytes.take k.toNat, min f.synced k⟩) (fun f => trunc1_tr d b2 b3 b_ n k f) (fun f D' hk => trunc2_tr d m b2 b3 b_ D' n k f hk)) ?_
  rintro v Γ' ⟨rfl, rfl⟩
  refine n3 ?_
  repeat' (first | refine asn ?_ | refine jn ?_ | refine nl ?_ | refine ld rfl ?_ | refine sq ?_ | refine rg ?_ | refine kp ?_ | refine ct ?_ | refine cf ?_ | (refine cd (fun hc => ?_) (fun hc => ?_) <;> try (exfalso; omega)) | (refine cn (fun hc => ?_) (fun hc => ?_) <;> try (exfalso; omega)) | refine bl ?_ | refine ib ?_ | refine xt ?_ | refine bx (fun b_ => ?_) | refine la rfl ?_ | refine lde rfl ?_ | refine lae rfl ?_ | refine mf2 ?_ | refine af_ ?_ | refine cb (fun hc => ?_) (fun hc => ?_))
  refine rt ?_
  exact ⟨_, ⟨rfl, rfl⟩, _, by repeat constructor⟩
end Go.Proofs.YtaeefjcbmkiiaaaGreatDoor
/- Scopes: rules. -/
namespace Go.Proofs.YtaeefjcbmkiiaaaGreatDoor.Sl
open Go Go.RowKit
section
variable {c : Ctx} {k : List Item} {st : St} {Γ : List Assn}
theorem scp {x : Code} (h : J c (.code x :: .inScope x :: k) st Γ) : J c (.code (.scope x) :: k) st Γ :=
  fun b cs a w h1 h2 h3 h4 => Arr.of_step step_scope (h b cs a w h1 h2 h3 h4)
theorem isc {x : Code} (h : J c k st Γ) : J c (.inScope x :: k) st Γ :=
  fun b cs a w h1 h2 h3 h4 => Arr.of_step step_inScope (h b cs a w h1 h2 h3 h4)
end
end Go.Proofs.YtaeefjcbmkiiaaaGreatDoor.Sl
/- The log reads a segment. -/
namespace Go.Proofs.YtaeefjcbmkiiaaaGreatDoor
open Go Sl
attribute [local irreducible] J JR JS RO CR Arr Sat Tr sat blk
set_option linter.unusedVariables false
set_option linter.unusedSimpArgs false
set_option maxHeartbeats 4000000
set_option maxRecDepth 4000
theorem unframe_le (s : List UInt8) : (unframe s).2.2 ≤ s.length ∧ (unframe s).2.1.length ≤ s.length := by
  unfold unframe
  split
  · exact ⟨Nat.zero_le _, Nat.zero_le _⟩
  split
  · exact ⟨Nat.zero_le _, Nat.zero_le _⟩
  split
  · exact ⟨Nat.zero_le _, Nat.zero_le _⟩
  split
  · exact ⟨Nat.zero_le _, Nat.zero_le _⟩
  · dsimp only
    refine ⟨by omega, ?_⟩
    rw [List.length_drop, List.length_take]; omega
theorem take_yes (w d : Nat) (W : LogS) (ev sv : Value) (s : List UInt8) (hs : s.length ≤ 9223372036854775807) (hR : Rise W.ents) (hLl : W.ents.length ≤ 100000) (hS : W.segs ≠ []) (hSl : W.segs.length ≤ 1000) {r : Rec} (ho : toRec s = some r) :
    Tr Tryz.prog 92 [.pointer (some ⟨w, 0, none⟩), vs s] [blk w (lcell d W.hard ev sv), sl 70 entE ev W.ents, sl 94 segE sv W.segs]
      fun v Γ => ∃ ev', v = .bool true ∧ Γ = [blk w (lcell d (W.recd r).hard ev' sv), sl 70 entE ev' (W.recd r).ents, sl 94 segE sv (W.recd r).segs] := by
  have := take_tr w d W ev sv s hs hR hLl hS hSl; rw [ho] at this; exact this
theorem take_no (w d : Nat) (W : LogS) (ev sv : Value) (s : List UInt8) (hs : s.length ≤ 9223372036854775807) (hR : Rise W.ents) (hLl : W.ents.length ≤ 100000) (hS : W.segs ≠ []) (hSl : W.segs.length ≤ 1000) (ho : toRec s = none) :
    Tr Tryz.prog 92 [.pointer (some ⟨w, 0, none⟩), vs s] [blk w (lcell d W.hard ev sv), sl 70 entE ev W.ents, sl 94 segE sv W.segs]
      fun v Γ => ∃ ev', v = .bool false ∧ Γ = [blk w (lcell d W.hard ev' sv), sl 70 entE ev' W.ents, sl 94 segE sv W.segs] := by
  have := take_tr w d W ev sv s hs hR hLl hS hSl; rw [ho] at this; exact this
theorem readSeg_no {W : LogS} {D : DiskS} {last : Bool} (h : (D.find (segFile (lastS W.segs))).2 ≠ 0) : W.readSeg D last = ((D.find (segFile (lastS W.segs))).2, W, D) := if_pos h
theorem readSeg_ok {W W1 : LogS} {D : DiskS} {last : Bool} (h : (D.find (segFile (lastS W.segs))).2 = 0) {e : Int} (h1 : readE W (D.find (segFile (lastS W.segs))).1.bytes = (W1, [], e)) : W.readSeg D last = (0, W1, D) := by
  unfold LogS.readSeg
  rw [if_neg (by rw [h]; simp), h1]; rfl
theorem readSeg_bad {W W1 : LogS} {D : DiskS} (h : (D.find (segFile (lastS W.segs))).2 = 0) {e : Int} {u : List UInt8} (h1 : readE W (D.find (segFile (lastS W.segs))).1.bytes = (W1, u, e)) (hu : u ≠ []) : W.readSeg D false = (e, W1, D) := by
  unfold LogS.readSeg
  rw [if_neg (by rw [h]; simp), h1]
  dsimp only
  rw [if_neg hu, if_pos rfl]
theorem readSeg_cut {W W1 : LogS} {D : DiskS} (h : (D.find (segFile (lastS W.segs))).2 = 0) {e : Int} {u : List UInt8} (h1 : readE W (D.find (segFile (lastS W.segs))).1.bytes = (W1, u, e)) (hu : u ≠ []) {n : Nm} (hn : segFile (lastS W.segs) = n) :
    W.readSeg D true = if (D.truncate n (lastS W1.segs).size).1 ≠ 0 then ((D.truncate n (lastS W1.segs).size).1, W1, (D.truncate n (lastS W1.segs).size).2) else (((D.truncate n (lastS W1.segs).size).2.sync n).1, W1, ((D.truncate n (lastS W1.segs).size).2.sync n).2) := by
  subst hn
  unfold LogS.readSeg
  rw [if_neg (by rw [h]; simp), h1]
  dsimp only
  rw [if_neg hu, if_neg (by simp)]
theorem readSeg_tr (w d m : Nat) (W : LogS) (ev sv : Value) (D : DiskS) (hD : D.Ok) (last : Bool) (hR : Rise W.ents) (hLl : W.ents.length + (D.find (segFile (lastS W.segs))).1.bytes.length ≤ 100000) (hS : W.segs ≠ []) (hSl : W.segs.length ≤ 1000) (hn0 : 0 ≤ (lastS W.segs).number) (hn1 : (lastS W.segs).number < 100) (hz : (lastS W.segs).size = 0) :
    Tr Tryz.prog 51 [.pointer (some ⟨w, 0, none⟩), .bool last] [blk w (lcell d W.hard ev sv), sl 70 entE ev W.ents, sl 94 segE sv W.segs, blk d (dcell m D), mp fmap m D.files]
      fun v Γ => ∃ ev', v = .int .i64 (W.readSeg D last).1 ∧ Γ = [blk w (lcell d (W.readSeg D last).2.1.hard ev' sv), sl 70 entE ev' (W.readSeg D last).2.1.ents, sl 94 segE sv (W.readSeg D last).2.1.segs, blk d (dcell m (W.readSeg D last).2.2), mp fmap m (W.readSeg D last).2.2.files] := by
  have hS0 : 0 < W.segs.length := List.length_pos_iff.2 hS
  refine Tr_of_J Tryz.func51 follows rfl Tryz.ntmps51 (by simp) fun B F => ?_
  repeat' (first | refine lb ?_ | refine scp ?_ | refine isc ?_ | (refine cl (segName_tr (lastS W.segs) hn0 hn1) ?_; rintro v Γ' ⟨rfl, rfl⟩; refine n0 ?_) | (refine cl (read_tr d m D (segFile (lastS W.segs))) ?_; rintro v Γ' ⟨rfl, rfl⟩; refine n2 ?_) | refine mv ?_ | refine asn ?_ | refine jn ?_ | refine nl ?_ | refine ld rfl ?_ | refine nc ?_ | refine f0 ?_ | refine xt2 ?_ | refine sq ?_ | refine rg ?_ | refine lnb ?_ | refine lls rfl ?_ | refine ad ?_ | refine sb ?_ | refine lss ?_ | refine eql ?_ | refine neq ?_ | refine p1 ?_ | refine p0 ?_ | refine sk2 ?_ | refine kp ?_ | refine ct ?_ | refine cf ?_ | (refine cd (fun hc => ?_) (fun hc => ?_) <;> try (exfalso; omega)) | (refine cn (fun hc => ?_) (fun hc => ?_) <;> try (exfalso; omega)) | refine bl ?_ | refine ib ?_ | refine xt ?_ | refine sr rfl ?_ | refine la rfl ?_ | refine ixa rfl rfl ?_ | refine fe ?_ | refine lde rfl ?_ | refine lae rfl ?_ | refine fa ?_ | refine seq ?_ | refine sne ?_ | refine cc ?_ | refine slb ?_ | refine slbl ?_ | refine slbh ?_ | refine af_ ?_ | (refine gd (fun hc => ?_) (fun hc => ?_) <;> try (exfalso; omega)) | (refine gn (fun hc => ?_) (fun hc => ?_) <;> try (exfalso; omega)) | refine aw ?_ | refine sw ?_ | refine aeq ?_ | refine ane ?_ | refine sli rfl ?_ | refine slil rfl ?_ | refine slih rfl ?_ | refine cb (fun hc => ?_) (fun hc => ?_) | refine gs (fun hc => ?_) (fun hc => ?_) | refine J_draw (id := 1) [(0, true, []), (1, true, []), (2, true, []), (3, true, []), (4, true, []), (5, true, []), (6, true, []), (7, true, []), (8, true, []), (9, true, []), (10, true, []), (11, true, [])] (by kernel_rfl) ?_ | refine J_draw (id := 2) [(0, true, []), (1, true, []), (2, true, []), (3, true, []), (4, true, []), (5, true, []), (6, true, []), (7, false, [0, 1, 2, 3]), (8, false, []), (9, true, []), (10, true, []), (11, true, []), (12, true, []), (13, true, [])] (by kernel_rfl) ?_ | refine J_draw (id := 15) [(0, true, []), (1, true, []), (2, true, []), (3, true, []), (4, true, []), (5, true, []), (6, true, []), (8, true, []), (9, true, []), (10, true, []), (11, true, []), (7, false, [0, 1, 2, 3, 8, 9, 10, 11]), (12, false, []), (13, true, [])] (by kernel_rfl) ?_ | refine J_draw (id := 18) [(0, true, []), (1, true, []), (2, true, []), (3, true, []), (4, true, []), (5, true, []), (6, true, []), (7, false, [0, 1, 2, 3]), (8, false, []), (9, true, [])] (by kernel_rfl) ?_ | refine JS_cons rfl rfl (RO_move rfl) ?_ | refine JS_cons rfl rfl (RO_nilCheck rfl) ?_ | refine JS_cons rfl rfl (RO_fieldAddr0 rfl) ?_ | refine JS_cons rfl rfl (RO_load rfl (by rfl)) ?_ | refine JS_off rfl ?_ | refine JS_cons rfl rfl (RO_extract rfl rfl) ?_ | refine JS_cons rfl rfl (RO_fieldAddr rfl) ?_ | refine JS_cons rfl rfl (RO_lnb rfl) ?_ | refine JS_cons rfl rfl (RO_lls rfl) ?_ | refine JS_cons rfl rfl (RO_add_in rfl rfl (by omega)) ?_ | refine JS_cons rfl rfl (RO_sub_in rfl rfl (by omega)) ?_ | refine JS_cons rfl rfl (RO_ixa rfl rfl (by omega)) ?_ | refine JS_cons rfl rfl (RO_fe rfl) ?_ | refine JS_cons rfl rfl (RO_lde rfl (by omega) rfl) ?_ | refine JS_cons rfl rfl (RO_slih rfl rfl (by omega)) ?_ | refine JS_cons rfl rfl (RO_slil rfl rfl (by omega)) ?_ | refine JS_offu rfl ?_ | refine JS_cons rfl rfl (RO_cc rfl rfl (by omega)) ?_ | refine JS_cons rfl rfl (RO_lae rfl (by omega) (by repeat constructor)) ?_ | refine JS_cons rfl rfl (RO_loadAgg rfl (by repeat constructor)) ?_ | fail)
  · rw [readSeg_no (by assumption)]
    refine rt ?_
    exact ⟨_, ⟨_, rfl, rfl⟩, _, by repeat constructor⟩
  have hf0 : (D.find (segFile (lastS W.segs))).2 = 0 := by assumption
  obtain ⟨s, hs⟩ : ∃ s, s = (D.find (segFile (lastS W.segs))).1.bytes := ⟨_, rfl⟩
  rw [← hs] at hLl ⊢
  refine lp (α := Nat × LogS × Value) (fun y => [(0, .pointer (some ⟨w, 0, none⟩)), (1, .bool last), (5, .pointer (some ⟨vb sv, el (vo sv) ((W.segs.length : Int) - 1).toNat segE.sz 0, none⟩)), (6, vs s)]) (fun y => [blk w (lcell d y.2.1.hard y.2.2 sv), sl 70 entE y.2.2 y.2.1.ents, sl 94 segE sv y.2.1.segs, blk d (dcell m D), mp fmap m D.files]) (fun y => y.1 ≤ s.length ∧ Rise y.2.1.ents ∧ y.2.1.ents.length + (s.length - y.1) ≤ 100000 ∧ y.2.1.segs ≠ [] ∧ y.2.1.segs.length = W.segs.length ∧ (lastS y.2.1.segs).number = (lastS W.segs).number ∧ (lastS y.2.1.segs).size = (y.1 : Int) ∧ readE W s = readE y.2.1 (s.drop y.1)) (fun y => s.length - y.1) (0, W, ev) ?_ ⟨Nat.zero_le _, hR, by omega, hS, rfl, rfl, hz, by simp⟩
  rintro ⟨a, W1, ev1⟩ ⟨ha, hR1, hl1, hS1, hSl1, hnu, hsz, hrd⟩ again
  dsimp only at ha hR1 hl1 hS1 hSl1 hnu hsz hrd again ⊢
  have hm0 : 0 ≤ (lastS W1.segs).number := by omega
  have hm1 : (lastS W1.segs).number < 100 := by omega
  have hS2 : 0 < W1.segs.length := List.length_pos_iff.2 hS1
  have hfile : segFile (lastS W.segs) = segFile (lastS W1.segs) := by unfold segFile; rw [hnu]
  have hsz' : (W1.segs.getD ((W1.segs.length : Int) - 1).toNat segE.dflt).size = (a : Int) := hsz
  have hat : (lastS W1.segs).size.toNat = a := by omega
  rw [← hSl1] at again ⊢
  by_cases hal : a < s.length
  · obtain ⟨x, hx⟩ : ∃ x, x = unframe (s.drop a) := ⟨_, rfl⟩
    have hle := unframe_le (s.drop a)
    rw [← hx, List.length_drop] at hle
    have hne : s.drop a ≠ [] := fun h => by have := congrArg List.length h; rw [List.length_drop] at this; simp at this; omega
    have hU : Tr Tryz.prog 91 [vs (s.drop (lastS W1.segs).size.toNat)] [] fun v Γ => v = .tuple #[vs x.2.1, .int .i64 x.2.2, .int .i64 x.1] ∧ Γ = [] := by
      rw [hat, hx]; exact Unframe_tr (s.drop a) (by rw [List.length_drop]; omega)
    by_cases hx0 : x.1 = 0
    · cases hrec : toRec x.2.1 with
      | some r =>
        obtain ⟨hg1, hg2, hg3, hg4⟩ := recd_segs r hS1
        have hRr := recd_rise hrec hR1
        have hok := unframe_ok (s := s.drop a) (by rw [← hx]; exact hx0)
        rw [← hx, List.length_drop] at hok
        have hls : lastS (W1.recd r).segs = (W1.recd r).segs.getD ((W1.segs.length : Int) - 1).toNat segE.dflt := by unfold lastS; rw [hg2]; rfl
        have hsr : ((W1.recd r).segs.getD ((W1.segs.length : Int) - 1).toNat segE.dflt).size = (a : Int) := by
          rw [← hls, hg4]; exact hsz
        have hG : ∀ q, q = ({ lastS (W1.recd r).segs with size := (lastS (W1.recd r).segs).size + x.2.2 } : Seg) → (W1.recd r).segs.set ((W1.segs.length : Int) - 1).toNat q = ((W1.recd r).grew x.2.2).segs := fun q h => by
          subst h; show _ = setLast _ _; unfold setLast; rw [hg2]
        obtain ⟨hj1, hj2, hj3, hj4⟩ := grew_segs x.2.2 hg1
        repeat' (first | refine lb ?_ | refine scp ?_ | refine isc ?_ | (refine cl hU ?_; rintro v Γ' ⟨rfl, rfl⟩; refine n0 ?_) | (refine cl (take_yes w d W1 ev1 sv x.2.1 (by omega) hR1 (by omega) hS1 (by omega) hrec) ?_; rintro v Γ' ⟨ev2, rfl, rfl⟩; refine n3 ?_) | refine sre rfl ?_ | refine mv ?_ | refine asn ?_ | refine jn ?_ | refine nl ?_ | refine ld rfl ?_ | refine nc ?_ | refine f0 ?_ | refine xt2 ?_ | refine sq ?_ | refine rg ?_ | refine lnb ?_ | refine lls rfl ?_ | refine ad ?_ | refine sb ?_ | refine lss ?_ | refine eql ?_ | refine neq ?_ | refine p1 ?_ | refine p0 ?_ | refine sk2 ?_ | refine kp ?_ | refine ct ?_ | refine cf ?_ | (refine cd (fun hc => ?_) (fun hc => ?_) <;> try (exfalso; omega)) | (refine cn (fun hc => ?_) (fun hc => ?_) <;> try (exfalso; omega)) | refine bl ?_ | refine ib ?_ | refine xt ?_ | refine sr rfl ?_ | refine la rfl ?_ | refine ixa rfl rfl ?_ | refine fe ?_ | refine lde rfl ?_ | refine lae rfl ?_ | refine fa ?_ | refine seq ?_ | refine sne ?_ | refine cc ?_ | refine slb ?_ | refine slbl ?_ | refine slbh ?_ | refine af_ ?_ | (refine gd (fun hc => ?_) (fun hc => ?_) <;> try (exfalso; omega)) | (refine gn (fun hc => ?_) (fun hc => ?_) <;> try (exfalso; omega)) | refine aw ?_ | refine sw ?_ | refine aeq ?_ | refine ane ?_ | refine sli rfl ?_ | refine slil rfl ?_ | refine slih rfl ?_ | refine cb (fun hc => ?_) (fun hc => ?_) | refine gs (fun hc => ?_) (fun hc => ?_) | refine J_draw (id := 1) [(0, true, []), (1, true, []), (2, true, []), (3, true, []), (4, true, []), (5, true, []), (6, true, []), (7, true, []), (8, true, []), (9, true, []), (10, true, []), (11, true, [])] (by kernel_rfl) ?_ | refine J_draw (id := 2) [(0, true, []), (1, true, []), (2, true, []), (3, true, []), (4, true, []), (5, true, []), (6, true, []), (7, false, [0, 1, 2, 3]), (8, false, []), (9, true, []), (10, true, []), (11, true, []), (12, true, []), (13, true, [])] (by kernel_rfl) ?_ | refine J_draw (id := 15) [(0, true, []), (1, true, []), (2, true, []), (3, true, []), (4, true, []), (5, true, []), (6, true, []), (8, true, []), (9, true, []), (10, true, []), (11, true, []), (7, false, [0, 1, 2, 3, 8, 9, 10, 11]), (12, false, []), (13, true, [])] (by kernel_rfl) ?_ | refine J_draw (id := 18) [(0, true, []), (1, true, []), (2, true, []), (3, true, []), (4, true, []), (5, true, []), (6, true, []), (7, false, [0, 1, 2, 3]), (8, false, []), (9, true, [])] (by kernel_rfl) ?_ | refine JS_cons rfl rfl (RO_move rfl) ?_ | refine JS_cons rfl rfl (RO_nilCheck rfl) ?_ | refine JS_cons rfl rfl (RO_fieldAddr0 rfl) ?_ | refine JS_cons rfl rfl (RO_load rfl (by rfl)) ?_ | refine JS_off rfl ?_ | refine JS_cons rfl rfl (RO_extract rfl rfl) ?_ | refine JS_cons rfl rfl (RO_fieldAddr rfl) ?_ | refine JS_cons rfl rfl (RO_lnb rfl) ?_ | refine JS_cons rfl rfl (RO_lls rfl) ?_ | refine JS_cons rfl rfl (RO_add_in rfl rfl (by omega)) ?_ | refine JS_cons rfl rfl (RO_sub_in rfl rfl (by omega)) ?_ | refine JS_cons rfl rfl (RO_ixa rfl rfl (by omega)) ?_ | refine JS_cons rfl rfl (RO_fe rfl) ?_ | refine JS_cons rfl rfl (RO_lde rfl (by omega) rfl) ?_ | refine JS_cons rfl rfl (RO_slih rfl rfl (by omega)) ?_ | refine JS_cons rfl rfl (RO_slil rfl rfl (by omega)) ?_ | refine JS_offu rfl ?_ | refine JS_cons rfl rfl (RO_cc rfl rfl (by omega)) ?_ | refine JS_cons rfl rfl (RO_lae rfl (by omega) (by repeat constructor)) ?_ | refine JS_cons rfl rfl (RO_loadAgg rfl (by repeat constructor)) ?_ | fail)
        rw [hG _ (by rw [hls]; rfl)]
        refine ag (again (a + x.2.2, (W1.recd r).grew x.2.2, ev2) ⟨by dsimp only; omega, hRr.1, ?_, hj1, by dsimp only; omega, by dsimp only; rw [hj3, hg3, hnu], by dsimp only; rw [hj4, hg4, hsz]; simp, ?_⟩ (by dsimp only; omega))
        · show (W1.recd r).ents.length + _ ≤ _
          have := hRr.2
          omega
        · show readE W s = _
          rw [hrd, readE_ok (by rw [← hx]; exact hx0) (by rw [← hx]; exact hrec), ← hx, List.drop_drop]
      | none =>
        have hr1 : readE W (D.find (segFile (lastS W.segs))).1.bytes = (W1, s.drop a, if x.1 = 9 then 9 else 8) := by rw [← hs, hrd, readE_bad hne (.inr (by rw [← hx]; exact hrec)), ← hx]
        repeat' (first | refine lb ?_ | refine scp ?_ | refine isc ?_ | (refine cl hU ?_; rintro v Γ' ⟨rfl, rfl⟩; refine n0 ?_) | (refine cl (take_no w d W1 ev1 sv x.2.1 (by omega) hR1 (by omega) hS1 (by omega) hrec) ?_; rintro v Γ' ⟨ev2, rfl, rfl⟩; refine n3 ?_) | (refine cl (segName_tr (lastS W1.segs) hm0 hm1) ?_; rintro v Γ' ⟨rfl, rfl⟩; refine n0 ?_) | (refine cl (truncate_tr d m D hD (segFile (lastS W1.segs)) (lastS W1.segs).size) ?_; rintro v Γ' ⟨rfl, rfl⟩; refine n2 ?_) | (refine cl (sync_tr d m (D.truncate (segFile (lastS W1.segs)) (lastS W1.segs).size).2 (hD.truncate _ _) (segFile (lastS W1.segs))) ?_; rintro v Γ' ⟨rfl, rfl⟩; refine n2 ?_) | refine mv ?_ | refine asn ?_ | refine jn ?_ | refine nl ?_ | refine ld rfl ?_ | refine nc ?_ | refine f0 ?_ | refine xt2 ?_ | refine sq ?_ | refine rg ?_ | refine lnb ?_ | refine lls rfl ?_ | refine ad ?_ | refine sb ?_ | refine lss ?_ | refine eql ?_ | refine neq ?_ | refine p1 ?_ | refine p0 ?_ | refine sk2 ?_ | refine kp ?_ | refine ct ?_ | refine cf ?_ | (refine cd (fun hc => ?_) (fun hc => ?_) <;> try (exfalso; omega)) | (refine cn (fun hc => ?_) (fun hc => ?_) <;> try (exfalso; omega)) | refine bl ?_ | refine ib ?_ | refine xt ?_ | refine sr rfl ?_ | refine la rfl ?_ | refine ixa rfl rfl ?_ | refine fe ?_ | refine lde rfl ?_ | refine lae rfl ?_ | refine fa ?_ | refine seq ?_ | refine sne ?_ | refine cc ?_ | refine slb ?_ | refine slbl ?_ | refine slbh ?_ | refine af_ ?_ | (refine gd (fun hc => ?_) (fun hc => ?_) <;> try (exfalso; omega)) | (refine gn (fun hc => ?_) (fun hc => ?_) <;> try (exfalso; omega)) | refine aw ?_ | refine sw ?_ | refine aeq ?_ | refine ane ?_ | refine sli rfl ?_ | refine slil rfl ?_ | refine slih rfl ?_ | refine cb (fun hc => ?_) (fun hc => ?_) | refine gs (fun hc => ?_) (fun hc => ?_) | refine J_draw (id := 1) [(0, true, []), (1, true, []), (2, true, []), (3, true, []), (4, true, []), (5, true, []), (6, true, []), (7, true, []), (8, true, []), (9, true, []), (10, true, []), (11, true, [])] (by kernel_rfl) ?_ | refine J_draw (id := 2) [(0, true, []), (1, true, []), (2, true, []), (3, true, []), (4, true, []), (5, true, []), (6, true, []), (7, false, [0, 1, 2, 3]), (8, false, []), (9, true, []), (10, true, []), (11, true, []), (12, true, []), (13, true, [])] (by kernel_rfl) ?_ | refine J_draw (id := 15) [(0, true, []), (1, true, []), (2, true, []), (3, true, []), (4, true, []), (5, true, []), (6, true, []), (8, true, []), (9, true, []), (10, true, []), (11, true, []), (7, false, [0, 1, 2, 3, 8, 9, 10, 11]), (12, false, []), (13, true, [])] (by kernel_rfl) ?_ | refine J_draw (id := 18) [(0, true, []), (1, true, []), (2, true, []), (3, true, []), (4, true, []), (5, true, []), (6, true, []), (7, false, [0, 1, 2, 3]), (8, false, []), (9, true, [])] (by kernel_rfl) ?_ | refine JS_cons rfl rfl (RO_move rfl) ?_ | refine JS_cons rfl rfl (RO_nilCheck rfl) ?_ | refine JS_cons rfl rfl (RO_fieldAddr0 rfl) ?_ | refine JS_cons rfl rfl (RO_load rfl (by rfl)) ?_ | refine JS_off rfl ?_ | refine JS_cons rfl rfl (RO_extract rfl rfl) ?_ | refine JS_cons rfl rfl (RO_fieldAddr rfl) ?_ | refine JS_cons rfl rfl (RO_lnb rfl) ?_ | refine JS_cons rfl rfl (RO_lls rfl) ?_ | refine JS_cons rfl rfl (RO_add_in rfl rfl (by omega)) ?_ | refine JS_cons rfl rfl (RO_sub_in rfl rfl (by omega)) ?_ | refine JS_cons rfl rfl (RO_ixa rfl rfl (by omega)) ?_ | refine JS_cons rfl rfl (RO_fe rfl) ?_ | refine JS_cons rfl rfl (RO_lde rfl (by omega) rfl) ?_ | refine JS_cons rfl rfl (RO_slih rfl rfl (by omega)) ?_ | refine JS_cons rfl rfl (RO_slil rfl rfl (by omega)) ?_ | refine JS_offu rfl ?_ | refine JS_cons rfl rfl (RO_cc rfl rfl (by omega)) ?_ | refine JS_cons rfl rfl (RO_lae rfl (by omega) (by repeat constructor)) ?_ | refine JS_cons rfl rfl (RO_loadAgg rfl (by repeat constructor)) ?_ | fail)
        all_goals first
          | (subst (by assumption : last = true)
             rw [readSeg_cut hf0 hr1 hne hfile, if_pos (by assumption)]
             refine rt ?_
             exact ⟨_, ⟨_, rfl, rfl⟩, _, by repeat constructor⟩)
          | (subst (by assumption : last = true)
             rw [readSeg_cut hf0 hr1 hne hfile, if_neg (fun h => h (by assumption))]
             refine rt ?_
             exact ⟨_, ⟨_, rfl, rfl⟩, _, by repeat constructor⟩)
          | (subst (by assumption : last = false)
             rw [readSeg_bad hf0 hr1 hne, if_neg (by assumption)]
             refine rt ?_
             exact ⟨_, ⟨_, rfl, rfl⟩, _, by repeat constructor⟩)
          | (subst (by assumption : last = false)
             rw [readSeg_bad hf0 hr1 hne, if_pos (by assumption), ← (by assumption : x.1 = 9)]
             refine rt ?_
             exact ⟨_, ⟨_, rfl, rfl⟩, _, by repeat constructor⟩)
          | trace_state
    · have hnn : True := trivial
      have hr1 : readE W (D.find (segFile (lastS W.segs))).1.bytes = (W1, s.drop a, if x.1 = 9 then 9 else 8) := by rw [← hs, hrd, readE_bad hne (.inl (by rw [← hx]; exact hx0)), ← hx]
      repeat' (first | refine lb ?_ | refine scp ?_ | refine isc ?_ | (refine cl hU ?_; rintro v Γ' ⟨rfl, rfl⟩; refine n0 ?_) | (refine cl (segName_tr (lastS W1.segs) hm0 hm1) ?_; rintro v Γ' ⟨rfl, rfl⟩; refine n0 ?_) | (refine cl (truncate_tr d m D hD (segFile (lastS W1.segs)) (lastS W1.segs).size) ?_; rintro v Γ' ⟨rfl, rfl⟩; refine n2 ?_) | (refine cl (sync_tr d m (D.truncate (segFile (lastS W1.segs)) (lastS W1.segs).size).2 (hD.truncate _ _) (segFile (lastS W1.segs))) ?_; rintro v Γ' ⟨rfl, rfl⟩; refine n2 ?_) | refine mv ?_ | refine asn ?_ | refine jn ?_ | refine nl ?_ | refine ld rfl ?_ | refine nc ?_ | refine f0 ?_ | refine xt2 ?_ | refine sq ?_ | refine rg ?_ | refine lnb ?_ | refine lls rfl ?_ | refine ad ?_ | refine sb ?_ | refine lss ?_ | refine eql ?_ | refine neq ?_ | refine p1 ?_ | refine p0 ?_ | refine sk2 ?_ | refine kp ?_ | refine ct ?_ | refine cf ?_ | (refine cd (fun hc => ?_) (fun hc => ?_) <;> try (exfalso; omega)) | (refine cn (fun hc => ?_) (fun hc => ?_) <;> try (exfalso; omega)) | refine bl ?_ | refine ib ?_ | refine xt ?_ | refine sr rfl ?_ | refine la rfl ?_ | refine ixa rfl rfl ?_ | refine fe ?_ | refine lde rfl ?_ | refine lae rfl ?_ | refine fa ?_ | refine seq ?_ | refine sne ?_ | refine cc ?_ | refine slb ?_ | refine slbl ?_ | refine slbh ?_ | refine af_ ?_ | (refine gd (fun hc => ?_) (fun hc => ?_) <;> try (exfalso; omega)) | (refine gn (fun hc => ?_) (fun hc => ?_) <;> try (exfalso; omega)) | refine aw ?_ | refine sw ?_ | refine aeq ?_ | refine ane ?_ | refine sli rfl ?_ | refine slil rfl ?_ | refine slih rfl ?_ | refine cb (fun hc => ?_) (fun hc => ?_) | refine gs (fun hc => ?_) (fun hc => ?_) | refine J_draw (id := 1) [(0, true, []), (1, true, []), (2, true, []), (3, true, []), (4, true, []), (5, true, []), (6, true, []), (7, true, []), (8, true, []), (9, true, []), (10, true, []), (11, true, [])] (by kernel_rfl) ?_ | refine J_draw (id := 2) [(0, true, []), (1, true, []), (2, true, []), (3, true, []), (4, true, []), (5, true, []), (6, true, []), (7, false, [0, 1, 2, 3]), (8, false, []), (9, true, []), (10, true, []), (11, true, []), (12, true, []), (13, true, [])] (by kernel_rfl) ?_ | refine J_draw (id := 15) [(0, true, []), (1, true, []), (2, true, []), (3, true, []), (4, true, []), (5, true, []), (6, true, []), (8, true, []), (9, true, []), (10, true, []), (11, true, []), (7, false, [0, 1, 2, 3, 8, 9, 10, 11]), (12, false, []), (13, true, [])] (by kernel_rfl) ?_ | refine J_draw (id := 18) [(0, true, []), (1, true, []), (2, true, []), (3, true, []), (4, true, []), (5, true, []), (6, true, []), (7, false, [0, 1, 2, 3]), (8, false, []), (9, true, [])] (by kernel_rfl) ?_ | refine JS_cons rfl rfl (RO_move rfl) ?_ | refine JS_cons rfl rfl (RO_nilCheck rfl) ?_ | refine JS_cons rfl rfl (RO_fieldAddr0 rfl) ?_ | refine JS_cons rfl rfl (RO_load rfl (by rfl)) ?_ | refine JS_off rfl ?_ | refine JS_cons rfl rfl (RO_extract rfl rfl) ?_ | refine JS_cons rfl rfl (RO_fieldAddr rfl) ?_ | refine JS_cons rfl rfl (RO_lnb rfl) ?_ | refine JS_cons rfl rfl (RO_lls rfl) ?_ | refine JS_cons rfl rfl (RO_add_in rfl rfl (by omega)) ?_ | refine JS_cons rfl rfl (RO_sub_in rfl rfl (by omega)) ?_ | refine JS_cons rfl rfl (RO_ixa rfl rfl (by omega)) ?_ | refine JS_cons rfl rfl (RO_fe rfl) ?_ | refine JS_cons rfl rfl (RO_lde rfl (by omega) rfl) ?_ | refine JS_cons rfl rfl (RO_slih rfl rfl (by omega)) ?_ | refine JS_cons rfl rfl (RO_slil rfl rfl (by omega)) ?_ | refine JS_offu rfl ?_ | refine JS_cons rfl rfl (RO_cc rfl rfl (by omega)) ?_ | refine JS_cons rfl rfl (RO_lae rfl (by omega) (by repeat constructor)) ?_ | refine JS_cons rfl rfl (RO_loadAgg rfl (by repeat constructor)) ?_ | fail)
      all_goals first
        | (subst (by assumption : last = true)
           rw [readSeg_cut hf0 hr1 hne hfile, if_pos (by assumption)]
           refine rt ?_
           exact ⟨_, ⟨_, rfl, rfl⟩, _, by repeat constructor⟩)
        | (subst (by assumption : last = true)
           rw [readSeg_cut hf0 hr1 hne hfile, if_neg (fun h => h (by assumption))]
           refine rt ?_
           exact ⟨_, ⟨_, rfl, rfl⟩, _, by repeat constructor⟩)
        | (subst (by assumption : last = false)
           rw [readSeg_bad hf0 hr1 hne, if_neg (by assumption)]
           refine rt ?_
           exact ⟨_, ⟨_, rfl, rfl⟩, _, by repeat constructor⟩)
        | (subst (by assumption : last = false)
           rw [readSeg_bad hf0 hr1 hne, if_pos (by assumption), ← (by assumption : x.1 = 9)]
           refine rt ?_
           exact ⟨_, ⟨_, rfl, rfl⟩, _, by repeat constructor⟩)
        | trace_state
  · have hae : s.drop a = [] := by rw [List.drop_eq_nil_iff]; omega
    have hr1 : readE W (D.find (segFile (lastS W.segs))).1.bytes = (W1, [], 0) := by rw [← hs, hrd, hae, readE_nil]
    rw [readSeg_ok hf0 hr1]
    repeat' (first | refine lb ?_ | refine scp ?_ | refine isc ?_ | refine mv ?_ | refine asn ?_ | refine jn ?_ | refine nl ?_ | refine ld rfl ?_ | refine nc ?_ | refine f0 ?_ | refine xt2 ?_ | refine sq ?_ | refine rg ?_ | refine lnb ?_ | refine lls rfl ?_ | refine ad ?_ | refine sb ?_ | refine lss ?_ | refine eql ?_ | refine neq ?_ | refine p1 ?_ | refine p0 ?_ | refine sk2 ?_ | refine kp ?_ | refine ct ?_ | refine cf ?_ | (refine cd (fun hc => ?_) (fun hc => ?_) <;> try (exfalso; omega)) | (refine cn (fun hc => ?_) (fun hc => ?_) <;> try (exfalso; omega)) | refine bl ?_ | refine ib ?_ | refine xt ?_ | refine sr rfl ?_ | refine la rfl ?_ | refine ixa rfl rfl ?_ | refine fe ?_ | refine lde rfl ?_ | refine lae rfl ?_ | refine fa ?_ | refine seq ?_ | refine sne ?_ | refine cc ?_ | refine slb ?_ | refine slbl ?_ | refine slbh ?_ | refine af_ ?_ | (refine gd (fun hc => ?_) (fun hc => ?_) <;> try (exfalso; omega)) | (refine gn (fun hc => ?_) (fun hc => ?_) <;> try (exfalso; omega)) | refine aw ?_ | refine sw ?_ | refine aeq ?_ | refine ane ?_ | refine sli rfl ?_ | refine slil rfl ?_ | refine slih rfl ?_ | refine cb (fun hc => ?_) (fun hc => ?_) | refine gs (fun hc => ?_) (fun hc => ?_) | refine J_draw (id := 1) [(0, true, []), (1, true, []), (2, true, []), (3, true, []), (4, true, []), (5, true, []), (6, true, []), (7, true, []), (8, true, []), (9, true, []), (10, true, []), (11, true, [])] (by kernel_rfl) ?_ | refine J_draw (id := 2) [(0, true, []), (1, true, []), (2, true, []), (3, true, []), (4, true, []), (5, true, []), (6, true, []), (7, false, [0, 1, 2, 3]), (8, false, []), (9, true, []), (10, true, []), (11, true, []), (12, true, []), (13, true, [])] (by kernel_rfl) ?_ | refine J_draw (id := 15) [(0, true, []), (1, true, []), (2, true, []), (3, true, []), (4, true, []), (5, true, []), (6, true, []), (8, true, []), (9, true, []), (10, true, []), (11, true, []), (7, false, [0, 1, 2, 3, 8, 9, 10, 11]), (12, false, []), (13, true, [])] (by kernel_rfl) ?_ | refine J_draw (id := 18) [(0, true, []), (1, true, []), (2, true, []), (3, true, []), (4, true, []), (5, true, []), (6, true, []), (7, false, [0, 1, 2, 3]), (8, false, []), (9, true, [])] (by kernel_rfl) ?_ | refine JS_cons rfl rfl (RO_move rfl) ?_ | refine JS_cons rfl rfl (RO_nilCheck rfl) ?_ | refine JS_cons rfl rfl (RO_fieldAddr0 rfl) ?_ | refine JS_cons rfl rfl (RO_load rfl (by rfl)) ?_ | refine JS_off rfl ?_ | refine JS_cons rfl rfl (RO_extract rfl rfl) ?_ | refine JS_cons rfl rfl (RO_fieldAddr rfl) ?_ | refine JS_cons rfl rfl (RO_lnb rfl) ?_ | refine JS_cons rfl rfl (RO_lls rfl) ?_ | refine JS_cons rfl rfl (RO_add_in rfl rfl (by omega)) ?_ | refine JS_cons rfl rfl (RO_sub_in rfl rfl (by omega)) ?_ | refine JS_cons rfl rfl (RO_ixa rfl rfl (by omega)) ?_ | refine JS_cons rfl rfl (RO_fe rfl) ?_ | refine JS_cons rfl rfl (RO_lde rfl (by omega) rfl) ?_ | refine JS_cons rfl rfl (RO_slih rfl rfl (by omega)) ?_ | refine JS_cons rfl rfl (RO_slil rfl rfl (by omega)) ?_ | refine JS_offu rfl ?_ | refine JS_cons rfl rfl (RO_cc rfl rfl (by omega)) ?_ | refine JS_cons rfl rfl (RO_lae rfl (by omega) (by repeat constructor)) ?_ | refine JS_cons rfl rfl (RO_loadAgg rfl (by repeat constructor)) ?_ | fail)
    refine rt ?_
    exact ⟨_, ⟨_, rfl, rfl⟩, _, by repeat constructor⟩
end Go.Proofs.YtaeefjcbmkiiaaaGreatDoor
/- A segment's number read off its name; numbers sorted. -/
namespace Go.Proofs.YtaeefjcbmkiiaaaGreatDoor
open Go Go.RowKit Go.Maps Go.Sort Go.Shelf Sl
set_option linter.unusedVariables false
set_option linter.unusedSimpArgs false
set_option maxHeartbeats 1000000
set_option maxRecDepth 4000
def digitsSet : List UInt8 := [48, 49, 50, 51, 52, 53, 54, 55, 56, 57]
/-- The digits of a number below 100. -/
def dn (n : Nat) : Nm := if n < 10 then [UInt8.ofNat (48 + n)] else [UInt8.ofNat (48 + n / 10), UInt8.ofNat (48 + n % 10)]
theorem dn_dec {n : Nat} (h : n < 100) : Lib.decDigits n = dn n := by
  unfold dn
  split
  · exact Lib.decDigits_one (by assumption)
  · exact Lib.decDigits_two (by assumption) h
theorem dn_facts : ∀ n : Fin 100, (dn n.val).all (fun b => digitsSet.contains b) = true ∧ Lib.atoi (dn n.val) = some (n.val : Int) ∧ (n.val = 0 ∨ ((dn n.val).getD 0 0).toNat ≠ 48) ∧ 1 ≤ (dn n.val).length ∧ (dn n.val).length ≤ 2 := by decide +kernel
theorem cutW_tr (s : List UInt8) : Tr Tryz.prog 79 [vs (119 :: s), vs [119]] [] fun v Γ => v = .tuple #[vs s, .bool true] ∧ Γ = [] :=
  Tr.of_same fun w => by
    have h := Any.strings_CutPrefix Tryz.lays103 (bs (119 :: s)) (bs [119]) w
    have e1 : Lib.trimPrefix (119 :: s) [119] = s := by simp [Lib.trimPrefix, Lib.hasPrefix]
    have e2 : Lib.hasPrefix (119 :: s) [119] = true := by simp [Lib.hasPrefix]
    have e3 : ∀ l : List UInt8, (bs l).data.toList = l := fun l => rfl
    rw [e3, e3, e1, e2] at h
    exact h
theorem atoi_tr (s : List UInt8) (n : Int) (hl : s.length ≤ 18) (h : Lib.atoi s = some n) : Tr Tryz.prog 81 [vs s] [] fun v Γ => v = .tuple #[.int .i64 n, .nilIface] ∧ Γ = [] :=
  Tr.below fun w => (Any.strconv_Atoi Tryz.lays172 (bs s) n (by rw [bs_size]; exact hl) h w).mono fun e w' ⟨he, t, hw⟩ => ⟨_, he, rfl, by
    subst hw
    exact Go.Joins.below_bytesWorld _ _ _ _ (Nat.le_refl _)⟩
theorem sortInt_tr (v : Value) (L : List Int) (h0 : 0 < L.length) (hl : L.length ≤ 1000000) : Tr Tryz.prog 49 [v] [sl 3 intE v L] fun r Γ => r = .tuple #[] ∧ Γ = [sl 3 intE v (L.mergeSort fun x y => decide (x ≤ y))] := by
  refine Tr.intro fun B F w hS => ?_
  · obtain ⟨cap, cur, e1, e2, hS3, e3, e4, e5, e6⟩ := sl_open hS h0
    have hb := (hS3.blk .here).2
    have hlt : vb v < w.heap.size := (Array.getElem?_eq_some_iff.1 hb).1
    have e5' : cur.size = cap := by rw [e5]; exact Nat.mul_one _
    have hflat : ∀ K : List Int, flat intE K = K.map fun n => Value.int .i64 n := fun K => by
      induction K with
      | nil => rfl
      | cons x K ih => rw [flat_cons, ih]; rfl
    have hcell : ∀ j, (hj : j < L.length) → cur[j]? = some (.int .i64 L[j]) := fun j hj => by
      have : (cur.toList.take (L.length * intE.sz))[j]? = (L.map fun n => Value.int .i64 n)[j]? := by rw [e6, hflat]
      rw [List.getElem?_take_of_lt (by show j < L.length * 1; omega), List.getElem?_map, List.getElem?_eq_getElem hj] at this
      simpa using this
    have hH : Holds (Value.int .i64) w (vb v) 0 L.toArray := fun j hj => by
      have hj' : j < L.length := by simpa using hj
      refine ⟨?_, ?_⟩
      · unfold World.cell?
        rw [hb]
        simp only [Nat.zero_add]
        simp [hcell j hj', hj']
      · unfold World.frozen?
        rw [hb]; simp
    have hc := Any.slices_Sort_int Tryz.lays189 (vb v) 0 cap L w hH hlt (by omega)
    rw [← e1] at hc
    refine hc.mono ?_
    rintro e w' ⟨rfl, n, os, rfl⟩
    refine ⟨_, _, rfl, ⟨rfl, rfl⟩, ?_⟩
    have hlen : (L.mergeSort fun x y => decide (x ≤ y)).length = L.length := List.length_mergeSort _
    have hk : L.length ≤ cur.size := by rw [e5']; exact e3
    let w1 : World := { w with heap := w.heap.setIfInBounds (vb v) (.cells (putCells (Value.int .i64) 0 (L.mergeSort fun x y => decide (x ≤ y)).toArray cur) 3 (0, 0)) }
    have hS4 : Sat B F (blk (vb v) (.cells (putCells (Value.int .i64) 0 (L.mergeSort fun x y => decide (x ≤ y)).toArray cur) 3 (0, 0)) :: []) w1 := hS3.write rfl rfl rfl rfl
    have hS5 := sl_close (e := intE) (L := L.mergeSort fun x y => decide (x ≤ y)) hS4 (cap := cap) (by rw [hlen]; exact e3) e4 (by simp [putCells, e5]) (by
      rw [hflat, hlen]
      have := take_putCellsI cur (L.mergeSort fun x y => decide (x ≤ y)) (by rw [hlen]; exact hk)
      rw [hlen] at this
      rw [show L.length * intE.sz = L.length from Nat.mul_one _]
      exact this)
    rw [hlen, ← e1] at hS5
    refine hS5.below ⟨rfl, rfl, rfl, by simp [w1], fun k hk => ?_⟩
    have hk' : k < w.heap.size := by simpa [w1] using hk
    rw [heap_grow_old _ _ (by simpa using hk')]
    by_cases hkv : vb v = k
    · subst hkv
      have := heap_sortedI (n := n) (os := #[]) (L.mergeSort fun x y => decide (x ≤ y)).toArray hb
      simp only [grow_empty] at this
      rw [this]
      simp [w1, hk']
    · have h2 := (grownBy_sortedI (w := w) (g := vb v) (n := n) (os := #[]) (L.mergeSort fun x y => decide (x ≤ y)).toArray).block k hk' (fun e => hkv (by simpa using e.symm))
      simp only [grow_empty] at h2
      rw [h2]
      simp [w1, hkv]
theorem numberOf1_tr (X : List UInt8) (n : Nat) (hn : n ≠ 0) (f1 : X.all (fun b => digitsSet.contains b) = true) (f2 : Lib.atoi X = some (n : Int)) (f3 : n = 0 ∨ (X.getD 0 0).toNat ≠ 48) (f4 : 1 ≤ X.length) (f5 : X.length ≤ 2) : Tr Tryz.prog 48 [vs (119 :: X)] [] fun v Γ => v = .int .i64 n ∧ Γ = [] := by
  have hne : ¬ X = [] := by rintro rfl; simp at f4
  have h48 : ¬ (((X.getD (0 : Int).toNat 0).toNat : Nat) : Int) = 48 := by
    have h : ¬ (X.getD 0 0).toNat = 48 := by
      rcases f3 with h | h
      · exact absurd h hn
      · exact h
    intro hx
    have hx' : (((X.getD 0 0).toNat : Nat) : Int) = 48 := hx
    omega
  refine Tr_of_J Tryz.func48 follows rfl Tryz.ntmps48 (by simp) fun B F => ?_
  repeat' (first | (refine cle rfl (cutW_tr X) ?_; rintro v Γ' ⟨rfl, rfl⟩; refine n0 ?_) | (refine cl (trim_tr X digitsSet (by decide) (by decide) (by omega)) ?_; rintro v Γ' ⟨⟨r, rfl, hr⟩, rfl⟩; refine n0 ?_) | (refine cle rfl (atoi_tr X n (by omega) f2) ?_; rintro v Γ' ⟨rfl, rfl⟩; refine n0 ?_) | refine mv ?_ | refine asn ?_ | refine jn ?_ | refine nl ?_ | refine xt2 ?_ | refine sq ?_ | refine rg ?_ | refine lnb ?_ | refine lls rfl ?_ | refine eql ?_ | refine gtr ?_ | refine nt ?_ | refine p1 ?_ | refine p0 ?_ | refine sk2 ?_ | refine kp ?_ | refine ct ?_ | refine cf ?_ | (refine cd (fun hc => ?_) (fun hc => ?_) <;> try (exfalso; omega)) | (refine cn (fun hc => ?_) (fun hc => ?_) <;> try (exfalso; omega)) | refine bl ?_ | refine ib ?_ | refine xt ?_ | refine seq ?_ | refine sne ?_ | refine ixb ?_ | refine af_ ?_ | (refine gd (fun hc => ?_) (fun hc => ?_) <;> try (exfalso; omega)) | (refine gn (fun hc => ?_) (fun hc => ?_) <;> try (exfalso; omega)) | refine cb (fun hc => ?_) (fun hc => ?_) | refine gs (fun hc => ?_) (fun hc => ?_))
  · exact absurd hc hne
  · exact absurd (hr.2 f1) hc
  · refine rt ?_; exact ⟨_, ⟨rfl, rfl⟩, _, by repeat constructor⟩
theorem numberOf_tr (n : Nat) (h0 : 1 ≤ n) (h1 : n < 100) : Tr Tryz.prog 48 [vs (segName n)] [] fun v Γ => v = .int .i64 n ∧ Γ = [] := by
  obtain ⟨f1, f2, f3, f4, f5⟩ := dn_facts ⟨n, h1⟩
  have e : segName n = 119 :: dn n := by unfold segName; rw [dn_dec h1]
  rw [e]
  exact numberOf1_tr (dn n) n (by omega) f1 f2 f3 f4 f5
end Go.Proofs.YtaeefjcbmkiiaaaGreatDoor
/- Open, where files lie. -/
namespace Go.Proofs.YtaeefjcbmkiiaaaGreatDoor
open Go Sl
attribute [local irreducible] J JR JS RO CR Arr Sat Tr sat blk
set_option linter.unusedVariables false
set_option linter.unusedSimpArgs false
set_option maxHeartbeats 4000000
set_option maxRecDepth 4000
theorem open_tr (d m : Nat) (D : DiskS) (hD : D.Ok) (hN : Named D) (h0 : D.files ≠ []) (hm : D.most ≤ 100000) :
    Tr Tryz.prog 26 [.pointer (some ⟨d, 0, none⟩)] [blk d (dcell m D), mp fmap m D.files]
      fun v Γ => ∃ w ev sv, v = .tuple #[if (openGo (segNums D) ⟨⟨0, 0⟩, [], []⟩ D).1 = 0 then .pointer (some ⟨w, 0, none⟩) else .pointer none, .int .i64 (openGo (segNums D) ⟨⟨0, 0⟩, [], []⟩ D).1]
        ∧ Γ = [blk w (lcell d (openGo (segNums D) ⟨⟨0, 0⟩, [], []⟩ D).2.1.hard ev sv), sl 70 entE ev (openGo (segNums D) ⟨⟨0, 0⟩, [], []⟩ D).2.1.ents, sl 94 segE sv (openGo (segNums D) ⟨⟨0, 0⟩, [], []⟩ D).2.1.segs, blk d (dcell m (openGo (segNums D) ⟨⟨0, 0⟩, [], []⟩ D).2.2), mp fmap m (openGo (segNums D) ⟨⟨0, 0⟩, [], []⟩ D).2.2.files] := by
  obtain ⟨names, hna⟩ : ∃ l, l = sortN (D.files.map (·.1)) := ⟨_, rfl⟩
  have hnl : names.length = D.files.length := by rw [hna]; unfold sortN; rw [List.length_mergeSort, List.length_map]
  have hct := hD.ct
  have hpos : 0 < D.files.length := List.length_pos_iff.2 h0
  refine Tr_of_J Tryz.func26 follows rfl Tryz.ntmps26 (by simp) fun B F => ?_
  repeat' (first | (refine cl (list_tr d m D hD) ?_; rintro v1 Γ' rfl; rw [← hna]; refine n3 ?_) | refine mv ?_ | refine asn ?_ | refine jn ?_ | refine nl ?_ | refine ld rfl ?_ | refine nc ?_ | refine f0 ?_ | refine sq ?_ | refine rg ?_ | refine lnb ?_ | refine lls rfl ?_ | refine ad ?_ | refine sb ?_ | refine lss ?_ | refine eql ?_ | refine neq ?_ | refine gtr ?_ | refine kp ?_ | refine ct ?_ | refine cf ?_ | (refine cd (fun hc => ?_) (fun hc => ?_) <;> try (exfalso; omega)) | (refine cn (fun hc => ?_) (fun hc => ?_) <;> try (exfalso; omega)) | refine bl ?_ | refine ib ?_ | refine xt ?_ | refine bx (fun b_ => ?_) | refine sr rfl ?_ | refine la rfl ?_ | refine ixa rfl rfl ?_ | refine fe ?_ | refine lde rfl ?_ | refine lae rfl ?_ | refine fa ?_ | refine bld ?_ | refine sne ?_ | refine cc ?_ | refine af_ ?_ | refine aw ?_ | refine sw ?_ | refine ane ?_ | refine cb (fun hc => ?_) (fun hc => ?_) | fail)
  refine J_sat (Γ' := sl 3 intE (.slice none 0 0) [] :: _) ?_ fun w hS => sl_nil hS
  refine lp (α := Nat × Value) (fun y => [(0, .pointer (some ⟨d, 0, none⟩)), (4, .pointer (some ⟨b_, 0, none⟩)), (5, y.2), (17, v1), (18, .int .i64 names.length), (19, .int .i64 y.1)]) (fun y => [sl 9 strE v1 names, sl 3 intE y.2 ((names.take y.1).map numOf), blk b_ (lcell d ⟨0, 0⟩ (.slice none 0 0) (.slice none 0 0)), blk d (dcell m D), mp fmap m D.files]) (fun y => y.1 ≤ names.length) (fun y => names.length - y.1) (0, .slice none 0 0) ?_ (Nat.zero_le _)
  rintro ⟨i, lv⟩ hi again
  dsimp only at hi again ⊢
  by_cases hin : i < names.length
  · obtain ⟨x, hx⟩ : ∃ x, x = names.getD i [] := ⟨_, rfl⟩
    have hxm : x ∈ D.files.map (·.1) := by
      have : x ∈ names := by rw [hx, List.getD_eq_getElem?_getD, List.getElem?_eq_getElem hin]; exact List.getElem_mem hin
      rw [hna] at this; exact List.mem_mergeSort.1 this
    obtain ⟨p, hp, hpx⟩ := List.mem_map.1 hxm
    obtain ⟨n, n1, n2, n3'⟩ := hN p hp
    have hxn : x = segName n := by rw [← hpx, n3']
    have hc1 : Tr Tryz.prog 48 [vs (names.getD i [])] [] fun v Γ => v = .int .i64 (n : Int) ∧ Γ = [] := by
      rw [← hx, hxn]; exact numberOf_tr n n1 n2
    repeat' (first | (refine cl hc1 ?_; rintro v Γ' ⟨rfl, rfl⟩; refine n0 ?_) | refine bsl (e := intE) (X := [(n : Int)]) (fun v2 => ?_) (.cona rfl rfl .nil) | refine apo rfl rfl (fun v3 => ?_) (by simp; omega) (by simp; omega) | refine mv ?_ | refine asn ?_ | refine jn ?_ | refine nl ?_ | refine ld rfl ?_ | refine nc ?_ | refine f0 ?_ | refine sq ?_ | refine rg ?_ | refine lnb ?_ | refine lls rfl ?_ | refine ad ?_ | refine sb ?_ | refine lss ?_ | refine eql ?_ | refine neq ?_ | refine gtr ?_ | refine kp ?_ | refine ct ?_ | refine cf ?_ | (refine cd (fun hc => ?_) (fun hc => ?_) <;> try (exfalso; omega)) | (refine cn (fun hc => ?_) (fun hc => ?_) <;> try (exfalso; omega)) | refine bl ?_ | refine ib ?_ | refine xt ?_ | refine bx (fun b_ => ?_) | refine sr rfl ?_ | refine la rfl ?_ | refine ixa rfl rfl ?_ | refine fe ?_ | refine lde rfl ?_ | refine lae rfl ?_ | refine fa ?_ | refine bld ?_ | refine sne ?_ | refine cc ?_ | refine af_ ?_ | refine aw ?_ | refine sw ?_ | refine ane ?_ | refine cb (fun hc => ?_) (fun hc => ?_) | fail)
    have e1 : (names.take i).map numOf ++ [(n : Int)] = (names.take (i + 1)).map numOf := by
      rw [List.take_succ_eq_append_getElem hin, List.map_append]
      congr 1
      have : names[i] = segName n := by rw [← hxn, hx, List.getD_eq_getElem?_getD, List.getElem?_eq_getElem hin]; rfl
      rw [this, List.map_cons, numOf_seg n2]; rfl
    rw [e1]
    exact ag (again (i + 1, v3) (by dsimp only; omega) (by dsimp only; omega))
  · clear again
    have hii : i = names.length := by omega
    subst hii
    rw [List.take_length]
    obtain ⟨ns, hns⟩ : ∃ l, l = segNums D := ⟨_, rfl⟩
    have hnsl : ns.length = D.files.length := by rw [hns, segNums_len]
    have hsort : (names.map numOf).mergeSort (fun x y => decide (x ≤ y)) = ns := by rw [hns, hna]; rfl
    have hmem : ∀ n ∈ ns, 1 ≤ n ∧ n < 100 := fun n h => segNums_mem hN (by rw [← hns]; exact h)
    have hsum : (ns.map (flen D)).sum ≤ 100000 := by
      have h1 := flen_sum hD hN
      have h2 := hD.sz
      rw [← hns] at h1; omega
    rw [← hns]
    have hsl : 0 < (names.map numOf).length := by rw [List.length_map]; omega
    have hS : Tr Tryz.prog 49 [lv] [sl 3 intE lv (names.map numOf)] fun r Γ => r = .tuple #[] ∧ Γ = [sl 3 intE lv ns] := by
      rw [← hsort]; exact sortInt_tr lv _ hsl (by rw [List.length_map]; omega)
    clear hns hsort hsl
    repeat' (first | (refine cl hS ?_; rintro v2 Γ' ⟨rfl, rfl⟩; refine n1 ?_) | refine mv ?_ | refine asn ?_ | refine jn ?_ | refine nl ?_ | refine ld rfl ?_ | refine nc ?_ | refine f0 ?_ | refine sq ?_ | refine rg ?_ | refine lnb ?_ | refine lls rfl ?_ | refine ad ?_ | refine sb ?_ | refine lss ?_ | refine eql ?_ | refine neq ?_ | refine gtr ?_ | refine kp ?_ | refine ct ?_ | refine cf ?_ | (refine cd (fun hc => ?_) (fun hc => ?_) <;> try (exfalso; omega)) | (refine cn (fun hc => ?_) (fun hc => ?_) <;> try (exfalso; omega)) | refine bl ?_ | refine ib ?_ | refine xt ?_ | refine bx (fun b_ => ?_) | refine sr rfl ?_ | refine la rfl ?_ | refine ixa rfl rfl ?_ | refine fe ?_ | refine lde rfl ?_ | refine lae rfl ?_ | refine fa ?_ | refine bld ?_ | refine sne ?_ | refine cc ?_ | refine af_ ?_ | refine aw ?_ | refine sw ?_ | refine ane ?_ | refine cb (fun hc => ?_) (fun hc => ?_) | fail)
    clear hS
    refine J_sat (Γ' := sl 70 entE (.slice none 0 0) [] :: _) ?_ fun w hS => sl_nil hS
    refine J_sat (Γ' := sl 94 segE (.slice none 0 0) [] :: _) ?_ fun w hS => sl_nil hS
    refine lp (α := Nat × LogS × Value × Value × DiskS) (fun y => [(0, .pointer (some ⟨d, 0, none⟩)), (4, .pointer (some ⟨b_, 0, none⟩)), (5, lv), (49, lv), (50, .int .i64 ns.length), (51, .int .i64 y.1)]) (fun y => [sl 3 intE lv ns, blk b_ (lcell d y.2.1.hard y.2.2.1 y.2.2.2.1), sl 70 entE y.2.2.1 y.2.1.ents, sl 94 segE y.2.2.2.1 y.2.1.segs, blk d (dcell m y.2.2.2.2), mp fmap m y.2.2.2.2.files]) (fun y => y.1 ≤ ns.length ∧ y.2.2.2.2.Ok ∧ (y.1 < ns.length → y.2.2.2.2 = D) ∧ Rise y.2.1.ents ∧ y.2.1.ents.length + ((ns.drop y.1).map (flen D)).sum ≤ 100000 ∧ y.2.1.segs.length = y.1 ∧ openGo ns ⟨⟨0, 0⟩, [], []⟩ D = openGo (ns.drop y.1) y.2.1 y.2.2.2.2) (fun y => ns.length - y.1) (0, ⟨⟨0, 0⟩, [], []⟩, .slice none 0 0, .slice none 0 0, D) ?_ ⟨Nat.zero_le _, hD, fun _ => rfl, ⟨fun i hi => by simp at hi, fun e he => (by cases he), fun e he => (by cases he)⟩, by simpa using hsum, rfl, rfl⟩
    rintro ⟨i, W1, ev, sv, D1⟩ ⟨hi, hD1, hDD, hR1, hl1, hS1, hgo⟩ again
    dsimp only at hi hD1 hDD hR1 hl1 hS1 hgo again ⊢
    by_cases hin : i < ns.length
    · have hDe := hDD hin
      subst hDe
      obtain ⟨n, hn⟩ : ∃ n, n = ns.getD i 0 := ⟨_, rfl⟩
      have hgn : ns.getD (i : Int).toNat intE.dflt = n := hn.symm
      have hge : ns[i] = n := by rw [hn, List.getD_eq_getElem?_getD, List.getElem?_eq_getElem hin]; rfl
      have hdr : ns.drop i = n :: ns.drop (i + 1) := by rw [← hge]; exact List.drop_eq_getElem_cons hin
      have hnm := hmem n (by rw [← hge]; exact List.getElem_mem hin)
      have hlast : lastS (W1.push n).segs = ⟨n, 0, 0⟩ := lastS_end _ _
      have hpl : (W1.push n).segs.length = i + 1 := by show (W1.segs ++ [_]).length = _; rw [List.length_append, hS1]; rfl
      have hpne : (W1.push n).segs ≠ [] := by show W1.segs ++ [_] ≠ []; simp
      rw [hdr, List.map_cons, List.sum_cons] at hl1
      have hfl : flen D1 n = (D1.find (segFile (lastS (W1.push n).segs))).1.bytes.length := by rw [hlast]; rfl
      obtain ⟨x, hx⟩ : ∃ x, x = (W1.push n).readSeg D1 (decide (ns.drop (i + 1) = [])) := ⟨_, rfl⟩
      have hfa := readSeg_facts (W := W1.push n) (last := decide (ns.drop (i + 1) = [])) hD hR1 hpne
      rw [← hx, ← hfl, hpl] at hfa
      obtain ⟨fa1, fa2, fa3, fa4, fa5⟩ := hfa
      have hdec : decide ((i : Int) = (ns.length : Int) - 1) = decide (ns.drop (i + 1) = []) := by
        rw [decide_eq_decide, List.drop_eq_nil_iff]; omega
      have hR : ∀ ev sv, Tr Tryz.prog 51 [.pointer (some ⟨b_, 0, none⟩), .bool (decide ((i : Int) = (ns.length : Int) - 1))] [blk b_ (lcell d W1.hard ev sv), sl 70 entE ev W1.ents, sl 94 segE sv (W1.segs ++ [⟨ns.getD (i : Int).toNat intE.dflt, 0, 0⟩]), blk d (dcell m D1), mp fmap m D1.files]
          fun v Γ => ∃ ev', v = .int .i64 x.1 ∧ Γ = [blk b_ (lcell d x.2.1.hard ev' sv), sl 70 entE ev' x.2.1.ents, sl 94 segE sv x.2.1.segs, blk d (dcell m x.2.2), mp fmap m x.2.2.files] := fun ev sv => by
        rw [hgn, hdec, hx]
        exact readSeg_tr b_ d m (W1.push n) ev sv D1 hD _ hR1 (by rw [← hfl]; show W1.ents.length + _ ≤ _; omega) hpne (by omega) (by rw [hlast]; dsimp only; omega) (by rw [hlast]; exact hnm.2) (by rw [hlast])
      repeat' (first | refine bsl (e := segE) (X := [⟨ns.getD (i : Int).toNat intE.dflt, 0, 0⟩]) (fun v2 => ?_) (.cona rfl rfl .nil) | refine apo rfl rfl (fun v3 => ?_) (by simp; omega) (by simp; omega) | refine sro rfl rfl ?_ | (refine cl (hR _ _) ?_; rintro v Γ' ⟨ev2, rfl, rfl⟩; refine n4 ?_) | refine mv ?_ | refine asn ?_ | refine jn ?_ | refine nl ?_ | refine ld rfl ?_ | refine nc ?_ | refine f0 ?_ | refine sq ?_ | refine rg ?_ | refine lnb ?_ | refine lls rfl ?_ | refine ad ?_ | refine sb ?_ | refine lss ?_ | refine eql ?_ | refine neq ?_ | refine gtr ?_ | refine kp ?_ | refine ct ?_ | refine cf ?_ | (refine cd (fun hc => ?_) (fun hc => ?_) <;> try (exfalso; omega)) | (refine cn (fun hc => ?_) (fun hc => ?_) <;> try (exfalso; omega)) | refine bl ?_ | refine ib ?_ | refine xt ?_ | refine bx (fun b_ => ?_) | refine sr rfl ?_ | refine la rfl ?_ | refine ixa rfl rfl ?_ | refine fe ?_ | refine lde rfl ?_ | refine lae rfl ?_ | refine fa ?_ | refine bld ?_ | refine sne ?_ | refine cc ?_ | refine af_ ?_ | refine aw ?_ | refine sw ?_ | refine ane ?_ | refine cb (fun hc => ?_) (fun hc => ?_) | fail)
      · have hx1 : ¬ x.1 = 0 := by assumption
        have hgo2 : openGo ns ⟨⟨0, 0⟩, [], []⟩ D1 = x := by rw [hgo, hdr, openGo, ← hx, if_pos hx1]
        rw [hgo2]
        refine rt ?_
        exact ⟨_, ⟨_, _, _, by rw [if_neg hx1]; rfl, rfl⟩, _, by repeat constructor⟩
      · have hx1 : x.1 = 0 := by assumption
        have hgo2 : openGo ns ⟨⟨0, 0⟩, [], []⟩ D1 = openGo (ns.drop (i + 1)) x.2.1 x.2.2 := by rw [hgo, hdr, openGo, ← hx, if_neg (fun h => h hx1)]
        refine ag (again (i + 1, x.2.1, ev2, v3, x.2.2) ⟨by dsimp only; omega, fa4, fun h => fa5 ?_, fa1, ?_, fa3, hgo2⟩ (by dsimp only; omega))
        · rw [decide_eq_false_iff_not, List.drop_eq_nil_iff]
          dsimp only at h; omega
        · have e : (W1.push n).ents = W1.ents := rfl
          rw [e] at fa2
          dsimp only; omega
    · have hii : i = ns.length := by omega
      have hgo2 : openGo ns ⟨⟨0, 0⟩, [], []⟩ D = (0, W1, D1) := by rw [hgo, hii, List.drop_length]; rfl
      rw [hgo2]
      repeat' (first | refine mv ?_ | refine asn ?_ | refine jn ?_ | refine nl ?_ | refine ld rfl ?_ | refine nc ?_ | refine f0 ?_ | refine sq ?_ | refine rg ?_ | refine lnb ?_ | refine lls rfl ?_ | refine ad ?_ | refine sb ?_ | refine lss ?_ | refine eql ?_ | refine neq ?_ | refine gtr ?_ | refine kp ?_ | refine ct ?_ | refine cf ?_ | (refine cd (fun hc => ?_) (fun hc => ?_) <;> try (exfalso; omega)) | (refine cn (fun hc => ?_) (fun hc => ?_) <;> try (exfalso; omega)) | refine bl ?_ | refine ib ?_ | refine xt ?_ | refine bx (fun b_ => ?_) | refine sr rfl ?_ | refine la rfl ?_ | refine ixa rfl rfl ?_ | refine fe ?_ | refine lde rfl ?_ | refine lae rfl ?_ | refine fa ?_ | refine bld ?_ | refine sne ?_ | refine cc ?_ | refine af_ ?_ | refine aw ?_ | refine sw ?_ | refine ane ?_ | refine cb (fun hc => ?_) (fun hc => ?_) | fail)
      refine rt ?_
      exact ⟨_, ⟨_, _, _, rfl, rfl⟩, _, by repeat constructor⟩
end Go.Proofs.YtaeefjcbmkiiaaaGreatDoor
/- The law: a log begun, with what lies on its disk; opened anew. -/
namespace Go.Proofs.YtaeefjcbmkiiaaaGreatDoor
open Go Sl
attribute [local irreducible] J JR JS RO CR Arr Sat Tr sat blk
set_option linter.unusedVariables false
set_option linter.unusedSimpArgs false
set_option maxHeartbeats 2000000
set_option maxRecDepth 4000
theorem fresh_kept {most : Int} (h0 : 100 ≤ most) (h1 : most ≤ 10000000) : ∃ G, Kept (log0 most) (disk0 most) G := by
  obtain ⟨a, b, c, d, e⟩ := open_live h0 h1
  obtain ⟨k1, k2⟩ := lay_cont a
  have hlast : lastS [⟨1, 0, 0⟩] = ⟨1, 0, 0⟩ := rfl
  have hT : layT [⟨1, 0, 0⟩] ⟨0, 0⟩ true [] = bytesOf [Rec.hard ⟨0, 0⟩] := layT_bytes [⟨1, 0, 0⟩] ⟨0, 0⟩ true []
  have hf : ((DiskS.new most).find (segFile ⟨1, 0, 0⟩)).1.bytes = [] := rfl
  rw [hlast, hf, List.nil_append, hT] at k1
  refine ⟨[(⟨1, ((bytesOf [Rec.hard ⟨0, 0⟩]).length : Int), 0⟩, [.hard ⟨0, 0⟩])], { lays := { segs := by rw [e, hT]; rfl, cont := by exact k1, good := ?_, head := ?_, tops := ?_, size := ?_, inc := by simp, rng := ?_ }, fold := rfl }⟩
  all_goals intro g hg
  all_goals rw [List.mem_singleton.1 hg]
  · intro r hr
    rw [List.mem_singleton.1 hr]
    exact ⟨hrd0, Int.le_refl _, Int.le_refl _⟩
  · exact ⟨_, _, rfl⟩
  · rfl
  · dsimp only; omega
theorem openG_tr (d m : Nat) (most : Int) (h0 : 100 ≤ most) (h1 : most ≤ 10000000) :
    Tr Tryz.prog 26 [.pointer (some ⟨d, 0, none⟩)] [blk d (dcell m (DiskS.new most)), mp fmap m (DiskS.new most).files]
      fun v Γ => ∃ (w : Nat) (sv : Value) (W : LogS) (D : DiskS), (v = .tuple #[.pointer (some ⟨w, 0, none⟩), .int .i64 0] ∧ Fresh W D most ∧ ∃ G, Kept W D G) ∧ Γ = [blk w (lcell d W.hard (.slice none 0 0) sv), sl 70 entE (.slice none 0 0) W.ents, sl 94 segE sv W.segs, blk d (dcell m D), mp fmap m D.files] :=
  (open0_tr d m (DiskS.new most) (DiskS.Ok.new (by omega) h1) rfl).post fun v Γ h B F w hS => by
    rcases h with ⟨h, _⟩ | ⟨h, w, sv, hv, hG⟩
    · exact absurd (open_live h0 h1).1 h
    · exact ⟨Γ, ⟨w, sv, log0 most, disk0 most, ⟨hv, fresh h0 h1, fresh_kept h0 h1⟩, hG⟩, hS⟩
theorem beginG_tr (most : Int) (h0 : 100 ≤ most) (h1 : most ≤ 1000000) :
    Tr Tryz.prog 10 [.int .i64 most] []
      fun v Γ => ∃ (b w d m : Nat) (p : Option Addr) (sv : Value) (W : LogS) (D : DiskS), (v = .tuple #[.pointer (some ⟨b, 0, none⟩), .pointer p, .bool true] ∧ Fresh W D most ∧ ∃ G, Kept W D G) ∧ Γ = [blk b (wcell d w), blk w (lcell d W.hard (.slice none 0 0) sv), sl 70 entE (.slice none 0 0) W.ents, sl 94 segE sv W.segs, blk d (dcell m D), mp fmap m D.files] := by
  refine Tr_of_J Tryz.func10 follows rfl Tryz.ntmps10 (by simp) fun B F => ?_
  repeat' (first | (refine cle rfl (new_tr most (by omega) (by omega)) ?_; rintro v Γ' ⟨d, m, rfl, rfl⟩; refine n2 ?_) | (refine cle rfl (rnew_tr most) ?_; rintro v Γ' ⟨r, q, rfl, rfl⟩; refine n1 ?_) | (refine cle rfl (openG_tr d m most h0 (by omega)) ?_; rintro v Γ' ⟨w, sv, W, D, ⟨rfl, hF⟩, rfl⟩; refine n5 ?_) | (refine cle rfl (ropen0_tr r most) ?_; rintro v Γ' ⟨p, e, rfl, rfl⟩; refine n0 ?_) | refine mv ?_ | refine asn ?_ | refine jn ?_ | refine nl ?_ | refine xt2 ?_ | refine sq ?_ | refine rg ?_ | refine eql ?_ | refine pen ?_ | refine pnn ?_ | refine p1 ?_ | refine p0 ?_ | refine sk2 ?_ | refine kp ?_ | refine ct ?_ | refine cf ?_ | (refine cd (fun hc => ?_) (fun hc => ?_) <;> try (exfalso; omega)) | (refine cn (fun hc => ?_) (fun hc => ?_) <;> try (exfalso; omega)) | refine bl ?_ | refine ib ?_ | refine xt ?_ | refine bx (fun b_ => ?_) | refine bld ?_ | refine seq ?_ | refine af_ ?_ | (refine gd (fun hc => ?_) (fun hc => ?_) <;> try (exfalso; omega)) | (refine gn (fun hc => ?_) (fun hc => ?_) <;> try (exfalso; omega)) | refine pes ?_ | refine pns ?_ | refine aeq ?_ | refine cb (fun hc => ?_) (fun hc => ?_) | refine gs (fun hc => ?_) (fun hc => ?_) | fail)
  all_goals first
    | (refine rt ?_
       exact ⟨_, ⟨_, _, _, _, _, _, _, _, ⟨rfl, hF⟩, rfl⟩, _, by repeat constructor⟩)
    | skip
theorem actOf_kept {W : LogS} {D : DiskS} {n : Nat} {G : GL} (hW : Live W D n) (hK : Kept W D G) {a : Act} (ha : a.In) (hd : a.data.length ≤ 700) : ∃ G', Kept (actOf W D a).2.1 (actOf W D a).2.2 G' := by
  unfold actOf; split
  · exact reset_kept hW hK
  · exact save_kept hW hK (hardOf a) (hardOf_in ha) (entriesOf a) fun e he => ⟨(entriesOf_in ha e he).1, by rw [(entriesOf_in ha e he).2.2]; omega⟩
/-- A log opened anew is what it was. -/
theorem openK_tr (d m : Nat) (W : LogS) (D : DiskS) (hD : D.Ok) (hd : D.dead = false) (hm : D.most ≤ 100000) (G : GL) (hK : Lays W.segs D G) (hne : W.segs ≠ []) (H : Hrd) (E : List Ent) (hf : foldOf G = (H, E)) :
    Tr Tryz.prog 26 [.pointer (some ⟨d, 0, none⟩)] [blk d (dcell m D), mp fmap m D.files]
      fun v Γ => ∃ x ev sv, v = .tuple #[.pointer (some ⟨x, 0, none⟩), .int .i64 0] ∧ Γ = [blk x (lcell d H ev sv), sl 70 entE ev E, sl 94 segE sv W.segs, blk d (dcell m D), mp fmap m D.files] := by
  have h0 : D.files ≠ [] := by
    intro h
    have h1 := hK.cont
    unfold cont at h1
    rw [h] at h1
    have : G = [] := by simpa using h1.symm
    subst this
    exact hne hK.segs
  have h1 := open_lays hK hd hD.nd
  refine (open_tr d m D hD hK.named h0 hm).post fun v Γ ⟨x, ev, sv, hv, hG⟩ B F w hS => ?_
  rw [h1, hf] at hv hG
  exact ⟨Γ, ⟨x, ev, sv, hv, hG⟩, hS⟩
end Go.Proofs.YtaeefjcbmkiiaaaGreatDoor
/- The acts that a law is handed: how they lie in memory; the tables that its row lists, laid. -/
namespace Go.Proofs.YtaeefjcbmkiiaaaGreatDoor
open Go Sl Go.ChangeShapes Go.WideShapes Go.ChangeAt Go.RowKit Go.Deep
set_option linter.unusedVariables false
set_option maxRecDepth 100000
theorem own : ownKnob Tryz.prog.godebug = none := by kernel_rfl
theorem laidOut : laidOutB Tryz.prog = true := by kernel_rfl
section
variable {H : Type} {enc : TypeId × Value → H} {w : World} {sp : Nat → Bool} {held : Bool}
theorem addr_add (b o n : Nat) : (⟨b, o, none⟩ : Addr).add n = ⟨b, o + n, none⟩ := by
  unfold Addr.add
  split
  · rename_i h; rw [h]; rfl
  · rfl
theorem i64_wf {n : Int} (h : (Lit.int .i64 n).wf = true) : I64 n := by
  simpa [Lit.wf, IntKind.min, IntKind.max, IntKind.signed, IntKind.bits, I64] using h
/-- One act's eight cells. -/
theorem open_act {base fuel : Nat} {cs : List Value} {x : DataW H × List MemPlace} (h : DataW.trod enc Tryz.prog w base sp held fuel 34 cs = some x) : ∃ a : Act, a.In ∧ cs = actE.enc a := by
  obtain ⟨xs, n, _, _, hlen, hxl, hf⟩ := DataW.trod_struct Tryz.underlying34 h
  have hC : Tryz.prog.cellsOf 34 = 8 := by kernel_rfl
  have c3 : Tryz.prog.cellsOf 3 = 1 := by kernel_rfl
  have c9 : Tryz.prog.cellsOf 9 = 1 := by kernel_rfl
  have c32 : Tryz.prog.cellsOf 32 = 1 := by kernel_rfl
  rw [hC] at hlen
  match cs, hlen with
  | [v0, v1, v2, v3, v4, v5, v6, v7], _ =>
    have hx : xs.length = 8 := hxl
    have get : ∀ i, i < 8 → ∃ y, xs[i]? = some y := fun i hi => ⟨xs[i]'(by omega), List.getElem?_eq_getElem (by omega)⟩
    have g0 : DataW.trod enc Tryz.prog w base sp held n 3 (([v0, v1, v2, v3, v4, v5, v6, v7].drop 0).take (Tryz.prog.cellsOf 3)) = xs[0]? := hf 0 _ rfl
    have g1 : DataW.trod enc Tryz.prog w base sp held n 3 (([v0, v1, v2, v3, v4, v5, v6, v7].drop 1).take (Tryz.prog.cellsOf 3)) = xs[1]? := hf 1 _ rfl
    have g2 : DataW.trod enc Tryz.prog w base sp held n 3 (([v0, v1, v2, v3, v4, v5, v6, v7].drop 2).take (Tryz.prog.cellsOf 3)) = xs[2]? := hf 2 _ rfl
    have g3 : DataW.trod enc Tryz.prog w base sp held n 3 (([v0, v1, v2, v3, v4, v5, v6, v7].drop 3).take (Tryz.prog.cellsOf 3)) = xs[3]? := hf 3 _ rfl
    have g4 : DataW.trod enc Tryz.prog w base sp held n 3 (([v0, v1, v2, v3, v4, v5, v6, v7].drop 4).take (Tryz.prog.cellsOf 3)) = xs[4]? := hf 4 _ rfl
    have g5 : DataW.trod enc Tryz.prog w base sp held n 9 (([v0, v1, v2, v3, v4, v5, v6, v7].drop 5).take (Tryz.prog.cellsOf 9)) = xs[5]? := hf 5 _ rfl
    have g6 : DataW.trod enc Tryz.prog w base sp held n 32 (([v0, v1, v2, v3, v4, v5, v6, v7].drop 6).take (Tryz.prog.cellsOf 32)) = xs[6]? := hf 6 _ rfl
    have g7 : DataW.trod enc Tryz.prog w base sp held n 32 (([v0, v1, v2, v3, v4, v5, v6, v7].drop 7).take (Tryz.prog.cellsOf 32)) = xs[7]? := hf 7 _ rfl
    obtain ⟨y0, e0⟩ := get 0 (by decide)
    obtain ⟨y1, e1⟩ := get 1 (by decide)
    obtain ⟨y2, e2⟩ := get 2 (by decide)
    obtain ⟨y3, e3⟩ := get 3 (by decide)
    obtain ⟨y4, e4⟩ := get 4 (by decide)
    obtain ⟨y5, e5⟩ := get 5 (by decide)
    obtain ⟨y6, e6⟩ := get 6 (by decide)
    obtain ⟨y7, e7⟩ := get 7 (by decide)
    rw [c3, e0] at g0
    rw [c3, e1] at g1
    rw [c3, e2] at g2
    rw [c3, e3] at g3
    rw [c3, e4] at g4
    rw [c9, e5] at g5
    rw [c32, e6] at g6
    rw [c32, e7] at g7
    obtain ⟨n0, h0, _, w0⟩ := DataW.trod_int Tryz.underlying3 g0
    obtain ⟨n1, h1, _, w1⟩ := DataW.trod_int Tryz.underlying3 g1
    obtain ⟨n2, h2, _, w2⟩ := DataW.trod_int Tryz.underlying3 g2
    obtain ⟨n3, h3, _, w3⟩ := DataW.trod_int Tryz.underlying3 g3
    obtain ⟨n4, h4, _, w4⟩ := DataW.trod_int Tryz.underlying3 g4
    obtain ⟨s, h5, _, _⟩ := DataW.trod_string Tryz.underlying9 g5
    have row : ∀ {cs : List Value} {y : DataW H × List MemPlace}, DataW.trod enc Tryz.prog w base sp held n 32 cs = some y → ∃ q k m, cs = [.slice q k m] := fun g => by
      rcases DataW.trod_slice Tryz.underlying32 g with ⟨h, _⟩ | ⟨a, len, cap, _, _, _, _, h, _⟩
      · exact ⟨none, 0, 0, h⟩
      · exact ⟨some a, len, cap, h⟩
    obtain ⟨q, k, m, h6⟩ := row g6
    obtain ⟨q', k', m', h7⟩ := row g7
    simp only [List.drop_zero, List.drop_succ_cons, List.take_succ_cons, List.take_zero, List.cons.injEq, and_true] at h0 h1 h2 h3 h4 h5 h6 h7
    subst h0 h1 h2 h3 h4 h5 h6 h7
    refine ⟨⟨n0, n1, n2, n3, n4, s.data.toList, q, k, m, q', k', m'⟩, ⟨i64_wf w0, i64_wf w1, i64_wf w2, i64_wf w3, i64_wf w4⟩, ?_⟩
    show _ = [_, _, _, _, _, vs s.data.toList, _, _]
    have : vs s.data.toList = .string s := by
      show Value.string (bs s.data.toList) = _
      congr 1
    rw [this]
/-- All acts. -/
theorem open_acts {r : Reach} {b0 base : Nat} {v : Value} {d : DataW H} {p : List MemPlace} (hval : Value.okWide Tryz.prog w r b0 22 v) (h : DataW.Trod enc Tryz.prog w base sp held 22 v d p) : ∃ l : List Act, RdW w actE v l ∧ (∀ a ∈ l, a.In) ∧ l.length ≤ maxLen := by
  obtain ⟨fuel, h⟩ := h
  have hC : Tryz.prog.cellsOf 34 = 8 := by kernel_rfl
  have hone : v.cells.toList = [v] := by
    unfold Value.okWide at hval
    rw [Tryz.underlying22] at hval
    unfold Cell.okWide Cell.ok at hval
    rw [Tryz.underlying22] at hval
    cases v <;> first | rfl | (simp at hval)
  rw [hone] at h
  rcases open_slice Tryz.underlying22 h with ⟨h0, _⟩ | ⟨a, len, cap, m, n, D, Pl, hcs, hb, hl, hm, hmm, hx, hi⟩
  · exact ⟨[], .inl ⟨by simpa using h0, rfl⟩, fun a ha => (by cases ha), Nat.zero_le _⟩
  · have hv : v = .slice (some a) len cap := by simpa using hcs
    subst hv
    have hhas : w.has Tryz.prog r b0 a 34 cap := by
      unfold Value.okWide at hval
      rw [Tryz.underlying22] at hval
      unfold Cell.okWide Cell.ok at hval
      rw [Tryz.underlying22] at hval
      exact hval.2.2
    obtain ⟨_, hspot, row, cells, hsh, _⟩ := hhas
    obtain ⟨blk, off, spot⟩ := a
    dsimp only at hspot hsh
    subst hspot
    have hblk : ∃ cur E fz, w.heap[blk]? = some (.cells cur E fz) := by
      unfold World.shape? at hsh
      split at hsh
      · rename_i c e fz hc; exact ⟨c, e, fz, hc⟩
      · cases hsh
    obtain ⟨cur, E, fz, hblk⟩ := hblk
    have hlm : len ≤ m := by rw [hmm]; split <;> omega
    have key : ∀ i, i < len → ∃ act : Act, act.In ∧ ∀ j, j < 8 → cur.toList[off + (i * 8 + j)]? = (actE.enc act)[j]? := fun i hil => by
      obtain ⟨cs', hc, ht⟩ := hi i (by omega)
      obtain ⟨act, hin, rfl⟩ := open_act ht
      obtain ⟨_, _, hat⟩ := World.cells?_some hc
      refine ⟨act, hin, fun j hj => ?_⟩
      have := hat j (by rw [hC]; exact hj)
      rw [← this, hC, Go.Deep.add_add]
      rw [addr_add]
      unfold World.cell?
      dsimp only
      rw [hblk]
      simp
    have key' : ∃ f : Nat → Act, ∀ i, i < len → (f i).In ∧ ∀ j, j < 8 → cur.toList[off + (i * 8 + j)]? = (actE.enc (f i))[j]? := by
      refine ⟨fun i => if h : i < len then (key i h).choose else actE.dflt, fun i hil => ?_⟩
      simp only [hil, dif_pos]
      exact (key i hil).choose_spec
    obtain ⟨f, hf⟩ := key'
    have hll : ((List.range len).map f).length = len := by simp
    refine ⟨(List.range len).map f, .inr ⟨blk, off, cap, cur, E, fz, by rw [hll], by rw [hll]; exact hl, hblk, fun j hj => ?_⟩, fun x hx => ?_, by rw [hll]; omega⟩
    · rw [hll] at hj
      have hj8 : j < len * 8 := hj
      have e1 : j = j / 8 * 8 + j % 8 := by omega
      have hq : j / 8 < len := by omega
      rw [e1, (hf _ hq).2 (j % 8) (by omega)]
      have e2 : (flat actE ((List.range len).map f))[j / 8 * 8 + j % 8]? = _ := flat_get (e := actE) ((List.range len).map f) (j / 8) (j % 8) (by rw [hll]; exact hq) (by show _ < 8; omega)
      rw [e2]
      congr 2
      rw [List.getD_eq_getElem?_getD, List.getElem?_map, List.getElem?_range hq]; rfl
    · obtain ⟨i, hir, rfl⟩ := List.mem_map.1 hx
      exact (hf i (List.mem_range.1 hir)).1
end
end Go.Proofs.YtaeefjcbmkiiaaaGreatDoor
/- Where a law begins. -/
namespace Go.Proofs.YtaeefjcbmkiiaaaGreatDoor
open Go Sl Go.RowKit
set_option linter.unusedVariables false
/-- Where a law begins: nothing is new yet. -/
theorem Sat.start {W : World} {α : Type} {e : EncT α} {v : Value} {l : List α} (h : RdW W e v l) : Sat W (pur True) [rsl e v l] W := by
  have hd : Hp.disj (fun _ => none) (fun _ => none) := fun b => by simp
  have hle : Hp.le (fun _ => none) (fun _ => none) := fun b o h => by cases h
  have hrd : rsl e v l (baseHp W) (fun _ => none) := by
    rcases h with h | ⟨b, off, cap, cur, E, fz, h1, h2, h3, h4⟩
    · exact .inl h
    · refine .inr ⟨b, off, cap, cur, E, fz, h1, h2, ?_, h4⟩
      unfold baseHp
      have h3' : W.heap[b]? = some (.cells cur E fz) := h3
      rw [if_pos (Array.getElem?_eq_some_iff.1 h3').1]; exact h3'
  have hs : sat [rsl e v l] (baseHp W) (fun _ => none) := ⟨fun _ => none, fun _ => none, hd, hle, hle, hrd, trivial⟩
  exact ⟨Below.refl _ _, fun _ => none, ⟨fun b o h => (by cases h), ⟨fun _ => none, fun _ => none, hd, hle, hle, trivial, hs⟩⟩⟩
end Go.Proofs.YtaeefjcbmkiiaaaGreatDoor
