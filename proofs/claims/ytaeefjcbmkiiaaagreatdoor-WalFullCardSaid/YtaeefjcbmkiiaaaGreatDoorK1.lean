/- WHAT IS PROVED: the Go function kiosk/kiosklaw3.WalFull returns true, and leaves its arguments as they were, for every argument (a save that does not fit changes nothing; one that fits then is done). Conditions: those of the given row alone. -/
import Derived.Test.YtaeefjcbmkiiaaaGreatDoorL6
import Derived.Test.YtaeefjcbmkiiaaaGreatDoorK0
import Derived.Test.YtaeefjcbmkiiaaaGreatDoorCards
import Derived.Test.YtaeefjcbmkiiaaaGreatDoorTie
namespace Go.Proofs.YtaeefjcbmkiiaaaGreatDoor
open Go Sl Go.ChangeShapes Go.WideShapes Go.ChangeAt Go.RowKit Go.WideMaps Go.WideElems Go.ChangeMaps
set_option linter.unusedVariables false
set_option maxRecDepth 100000
/-- Where a law begins: nothing is new yet. -/
theorem Sat.start {W : World} {α : Type} {e : EncT α} {v : Value} {l : List α} (h : RdW W e v l) : Sat W (pur True) [rsl e v l] W := by
  have hd : Hp.disj (fun _ => none) (fun _ => none) := fun b => by simp
  have hle : Hp.le (fun _ => none) (fun _ => none) := fun b o h => by cases h
  have hrd : rsl e v l (baseHp W) (fun _ => none) := by
    rcases h with h | ⟨b, off, cap, cur, E, fz, h1, h2, h3, h4⟩
    · exact .inl h
    · refine .inr ⟨b, off, cap, cur, E, fz, h1, h2, ?_, h4⟩
      unfold baseHp
      have h3' : W.heap[b]? = some (.cells cur E fz) := h3
      rw [if_pos (Array.getElem?_eq_some_iff.1 h3').1]; exact h3'
  have hs : sat [rsl e v l] (baseHp W) (fun _ => none) := ⟨fun _ => none, fun _ => none, hd, hle, hle, hrd, trivial⟩
  exact ⟨Below.refl _ _, fun _ => none, ⟨fun b o h => (by cases h), ⟨fun _ => none, fun _ => none, hd, hle, hle, trivial, hs⟩⟩⟩
theorem walFull_lifted (os : Os) (started : os.Started) (H : Type) (enc : TypeId × Value → H) :
    ReturnsInHanded {} Tryz.checked os 7 .any (fun w args => (Rows.walFullSpec.pre enc Tryz.prog Tryz.f7 [] false w args ∧ laidMetH Tryz.prog Rows.walFullRow.laid w) ∧ sizedMet enc Tryz.prog Tryz.f7 (OpenSpec.ofChange Rows.walFullSpec) false w args)
      (Rows.walFullSpec.post enc Tryz.prog Tryz.f7 false true false false) := by
  refine returnsInHanded_of_change_and (C := Tryz.checked) (X := fun w _ => laidMetH Tryz.prog Rows.walFullRow.laid w) (fun _ _ _ hh h => h.of_heap hh) own started (by kernel_rfl) Tryz.func7
    (ChangeSpec.witness_shaped (enc := enc) (C := Tryz.checked) (os := os) (X := fun w _ => laidMetH Tryz.prog Rows.walFullRow.laid w) false (World.laidAll Tryz.prog os Rows.walFullRow.laid) #[.slice none 0 0, .int .i64 0, .string ⟨#[]⟩] 8 (World.laidAll_os _ _ _)
      (World.shaped_of_ZipB (by kernel_rfl) (by kernel_rfl)) (by kernel_rfl) (by kernel_rfl) (by kernel_rfl)
      (by rw [MakeChecks.laidMetH_plain _ _ _ (by kernel_rfl)]; exact laidMet_laidAll _ (by kernel_rfl) (by kernel_rfl))) ?_
  intro W base args ds gs before hval0 hW _ _ hL _
  have hval : ∀ (j : Nat) t v, Tryz.f7.params[j]? = some t → args[j]? = some v → Value.okWide Tryz.prog W .any base t v := hval0
  have hW' := hW
  obtain ⟨p, q, hA0, hV, rfl, _, _⟩ := hW
  have hA : DataW.TrodAll enc Tryz.prog W 0 (fun _ => true) true Tryz.f7.params.toList args.toList ds p := hA0
  rw [Tryz.params7] at hA hval
  obtain ⟨v0, v1, v2, d0, d1, d2, p0, p1, p2, rfl, rfl, rfl, h0, h1, h2⟩ := trodAll_three hA
  obtain ⟨rfl, rfl⟩ := trodVars_none hV
  obtain ⟨l, hr, hin, hlen⟩ := open_acts (hval 0 22 v0 rfl rfl) h0
  obtain ⟨most, rfl, rfl, rfl, wm⟩ := open_int Tryz.underlying3 (hval 1 3 v1 rfl rfl) h1
  obtain ⟨s, rfl, rfl, rfl, hs⟩ := open_string Tryz.underlying9 (hval 2 9 v2 rfl rfl) h2
  clear hA0 hval0
  simp only [List.append_nil] at hW'
  have hlt : ∀ x ∈ p0, x.block < W.heap.size := fun x hx => by simpa using hW'.lt x hx
  have es : vs s.data.toList = .string s := by
    show Value.string (bs s.data.toList) = _
    congr 1
  have hsz : s.data.toList.length ≤ 9223372036854775807 := by
    have : s.data.toList.length = s.size := by rw [Array.length_toList]; rfl
    unfold maxLen at hs; omega
  have T := (walFull_tr v0 l (by unfold maxLen at hlen; omega) hin most (i64_wf wm) s.data.toList hsz).app W (pur True) W (Sat.start hr)
  rw [es] at T
  refine T.mono fun e W' ⟨v, Γ', he, ⟨hv, _⟩, hS⟩ => ?_
  subst he hv
  have hb : Below W.heap.size W W' := hS.base
  exact ⟨_, rfl, _, _, _, [], p0 ++ ([] ++ []), [], hW', trodAll_mk1 (shut_bool Tryz.underlying4 _), trodAll_mk3 (Below.trod laidOut (by kernel_rfl) (of_decide_eq_true (by kernel_rfl)) h0 hb hlt) (shut_int Tryz.underlying3 wm) (shut_string Tryz.underlying9 hs), rfl, hb.frame _, fun h => by cases h⟩
theorem walFull_row : Rows.WalFullSaid :=
  OpenClaim.holds_of_wide 7 Tryz.f7 rfl rfl rfl rfl rfl rfl rfl ⟨rfl, rfl, rfl, rfl, rfl⟩ rfl rfl rfl rfl rfl (by kernel_rfl) Tryz.func7 (by kernel_rfl)
    (of_decide_eq_true (by kernel_rfl)) (by unfold Func.isWrapper; first | (rw [if_pos (by decide +kernel)]; kernel_rfl) | (rw [if_neg (by decide +kernel)]; exact ⟨rfl, rfl⟩))
    (fun os started H enc _ => walFull_lifted os started H enc)
theorem walFull_holds : Rows.WalFullCardSaid :=
  Claim7.holds_tied_plain_at .later [] [.data, .data, .data, .data, .sentinel, .sentinel, .pinned] true (true, "4b3d49cffdd0d6a93d5cf3607d67de4cf4e6cab560c22fd814272e6a7302bd2e") true
    walFull_row (fun _ h => by cases h) (by kernel_rfl) (fun _ h => by cases h) walFull_row_tie rfl ⟨rfl, rfl⟩ (by kernel_rfl) rfl
    (fun f fn hf hfn => by
      obtain rfl : f = 7 := Option.some.inj ((show Tryz.prog.funcNamed "kiosk/kiosklaw3.WalFull" = some 7 by kernel_rfl).symm.trans hf) |>.symm
      obtain rfl : fn = Tryz.f7 := (Option.some.inj (Tryz.func7.symm.trans hfn)).symm
      exact ⟨by kernel_rfl, fun j t ht => by
        rw [Tryz.params7] at ht
        have hm : t ∈ [22, 3, 9] := by simpa using Array.mem_of_getElem? ht
        have hall : ([22, 3, 9].all fun u => !Tryz.prog.wantsStandIn u) = true := by kernel_rfl
        exact (show Tryz.prog.wantsStandIn t = false by simpa using List.all_eq_true.1 hall t hm)⟩)
    (by kernel_rfl)
#print axioms walFull_holds
end Go.Proofs.YtaeefjcbmkiiaaaGreatDoor
