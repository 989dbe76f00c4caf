/- WHAT IS PROVED: the Go function kiosk/kiosklaw3.WalKeeps returns true, and leaves its arguments as they were, for every argument (behind a crash at any turn, whatever is kept, what is read is what all that was OK made of it, and perhaps a beginning of the records of what was going on). Conditions: those of the given row alone. -/
import Derived.Test.YtaeefjcbmkiiaaaGreatDoorVK1
import Derived.Test.YtaeefjcbmkiiaaaGreatDoorCards
import Derived.Test.YtaeefjcbmkiiaaaGreatDoorTie
set_option linter.unusedVariables false
set_option linter.unusedSimpArgs false
namespace Go.Proofs.YtaeefjcbmkiiaaaGreatDoor
open Go Sl Go.ChangeShapes Go.WideShapes Go.ChangeAt Go.RowKit Go.WideMaps Go.WideElems Go.ChangeMaps
set_option linter.unusedVariables false
set_option maxRecDepth 100000
theorem walKeeps_lifted (os : Os) (started : os.Started) (H : Type) (enc : TypeId × Value → H) :
    ReturnsInHanded {} Tryz.checked os 4 .any (fun w args => (Rows.walKeepsSpec.pre enc Tryz.prog Tryz.f4 [] false w args ∧ laidMetH Tryz.prog Rows.walKeepsRow.laid w) ∧ sizedMet enc Tryz.prog Tryz.f4 (OpenSpec.ofChange Rows.walKeepsSpec) false w args)
      (Rows.walKeepsSpec.post enc Tryz.prog Tryz.f4 false true false false) := by
  refine returnsInHanded_of_change_and (C := Tryz.checked) (X := fun w _ => laidMetH Tryz.prog Rows.walKeepsRow.laid w) (fun _ _ _ hh h => h.of_heap hh) own started (by kernel_rfl) Tryz.func4
    (ChangeSpec.witness_shaped (enc := enc) (C := Tryz.checked) (os := os) (X := fun w _ => laidMetH Tryz.prog Rows.walKeepsRow.laid w) false (World.laidAll Tryz.prog os Rows.walKeepsRow.laid) #[.slice none 0 0, .int .i64 0, .slice none 0 0, .slice none 0 0, .int .i64 0] 8 (World.laidAll_os _ _ _)
      (World.shaped_of_ZipB (by kernel_rfl) (by kernel_rfl)) (by kernel_rfl) (by kernel_rfl) (by kernel_rfl)
      (by rw [MakeChecks.laidMetH_plain _ _ _ (by kernel_rfl)]; exact laidMet_laidAll _ (by kernel_rfl) (by kernel_rfl))) ?_
  intro W base args ds gs before hval0 hW _ _ hL _
  have hval : ∀ (j : Nat) t v, Tryz.f4.params[j]? = some t → args[j]? = some v → Value.okWide Tryz.prog W .any base t v := hval0
  have hW' := hW
  obtain ⟨p, q, hA0, hV, rfl, _, _⟩ := hW
  have hA : DataW.TrodAll enc Tryz.prog W 0 (fun _ => true) true Tryz.f4.params.toList args.toList ds p := hA0
  rw [Tryz.params4] at hA hval
  obtain ⟨v0, v1, v2, v3, v4, d0, d1, d2, d3, d4, p0, p1, p2, p3, p4, rfl, rfl, rfl, h0, h1, h2, h3, h4⟩ := trodAll_five hA
  obtain ⟨rfl, rfl⟩ := trodVars_none hV
  obtain ⟨l, hr, hin, hlen⟩ := open_acts (hval 0 22 v0 rfl rfl) h0
  obtain ⟨turn, rfl, rfl, rfl, wm⟩ := open_int Tryz.underlying3 (hval 1 3 v1 rfl rfl) h1
  obtain ⟨ks, hr2, hin2, hlen2⟩ := open_intsR (hval 2 32 v2 rfl rfl) h2
  obtain ⟨ns, hr3, hin3, hlen3⟩ := open_intsR (hval 3 32 v3 rfl rfl) h3
  obtain ⟨agn, rfl, rfl, rfl, wm4⟩ := open_int Tryz.underlying3 (hval 4 3 v4 rfl rfl) h4
  clear hA0 hval0
  simp only [List.append_nil] at hW'
  have hlt : ∀ x ∈ p0 ++ p2 ++ p3, x.block < W.heap.size := fun x hx => by simpa using hW'.lt x hx
  have T := (walKeeps_tr v0 v2 v3 l (by unfold maxLen at hlen; omega) hin turn agn (i64_wf wm) (i64_wf wm4) ks ns (by unfold maxLen at hlen2; omega) (by unfold maxLen at hlen3; omega)).app W (pur True) W (Sat.start3 hr hr2 hr3)
  refine T.mono fun e W' ⟨v, Γ', he, ⟨hv, _⟩, hS⟩ => ?_
  subst he hv
  have hb : Below W.heap.size W W' := hS.base
  exact ⟨_, rfl, _, _, _, [], p0 ++ ([] ++ (p2 ++ (p3 ++ []))), [], hW', trodAll_mk1 (shut_bool Tryz.underlying4 _), trodAll_mk5 (Below.trod laidOut (by kernel_rfl) (of_decide_eq_true (by kernel_rfl)) h0 hb fun x hx => hlt x (by simp [hx])) (shut_int Tryz.underlying3 wm) (Below.trod laidOut (by kernel_rfl) (of_decide_eq_true (by kernel_rfl)) h2 hb fun x hx => hlt x (by simp [hx])) (Below.trod laidOut (by kernel_rfl) (of_decide_eq_true (by kernel_rfl)) h3 hb fun x hx => hlt x (by simp [hx])) (shut_int Tryz.underlying3 wm4), rfl, hb.frame _, fun h => by cases h⟩
theorem walKeeps_row : Rows.WalKeepsSaid :=
  OpenClaim.holds_of_wide 4 Tryz.f4 rfl rfl rfl rfl rfl rfl rfl ⟨rfl, rfl, rfl, rfl, rfl⟩ rfl rfl rfl rfl rfl (by kernel_rfl) Tryz.func4 (by kernel_rfl)
    (of_decide_eq_true (by kernel_rfl)) (by unfold Func.isWrapper; first | (rw [if_pos (by decide +kernel)]; kernel_rfl) | (rw [if_neg (by decide +kernel)]; exact ⟨rfl, rfl⟩))
    (fun os started H enc _ => walKeeps_lifted os started H enc)
theorem walKeeps_holds : Rows.WalKeepsCardSaid :=
  Claim7.holds_tied_plain_at .later [] [.data, .data, .data, .data, .sentinel, .sentinel, .pinned] true (true, "4b3d49cffdd0d6a93d5cf3607d67de4cf4e6cab560c22fd814272e6a7302bd2e") true
    walKeeps_row (fun _ h => by cases h) (by kernel_rfl) (fun _ h => by cases h) walKeeps_row_tie rfl ⟨rfl, rfl⟩ (by kernel_rfl) rfl
    (fun f fn hf hfn => by
      obtain rfl : f = 4 := Option.some.inj ((show Tryz.prog.funcNamed "kiosk/kiosklaw3.WalKeeps" = some 4 by kernel_rfl).symm.trans hf) |>.symm
      obtain rfl : fn = Tryz.f4 := (Option.some.inj (Tryz.func4.symm.trans hfn)).symm
      exact ⟨by kernel_rfl, fun j t ht => by
        rw [Tryz.params4] at ht
        have hm : t ∈ [22, 3, 32, 32, 3] := by simpa using Array.mem_of_getElem? ht
        have hall : ([22, 3, 32, 32, 3].all fun u => !Tryz.prog.wantsStandIn u) = true := by kernel_rfl
        exact (show Tryz.prog.wantsStandIn t = false by simpa using List.all_eq_true.1 hall t hm)⟩)
    (by kernel_rfl)
#print axioms walKeeps_holds
end Go.Proofs.YtaeefjcbmkiiaaaGreatDoor
