/- The library's functions, by their contracts. -/
import Derived.Test.YtaeefjcbmkiiaaaGreatDoorTy
import Derived.Test.YtaeefjcbmkiiaaaGreatDoorM0
import Derived.Test.YtaeefjcbmkiiaaaGreatDoorLY
namespace Go.Proofs.YtaeefjcbmkiiaaaGreatDoor
open Go Go.RowKit Sl
def strE : EncT (List UInt8) where
  enc l := [vs l]
  dec := fun l => match l with | [.string s] => s.data.toList | _ => []
  sz := 1
  dflt := []
  len _ := rfl
  ok _ := rfl
  pos := by decide
def intE : EncT Int where
  enc n := [.int .i64 n]
  dec := fun l => match l with | [.int _ n] => n | _ => 0
  sz := 1
  dflt := 0
  len _ := rfl
  ok _ := rfl
  pos := by decide
/-- What the shelf says, as a contract. -/
theorem Tr.of_below {f : FuncId} {args : List Value} {q : Value → Prop} (h : ∀ w, Calls Tryz.prog f args.toArray w fun e w' => (∃ v, e = .returned v ∧ q v) ∧ Below w.heap.size w w') : Tr Tryz.prog f args [] fun v Γ => q v ∧ Γ = [] :=
  Tr.below fun w => (h w).mono fun e w' ⟨⟨v, he, hq⟩, hb⟩ => ⟨v, he, hq, hb⟩
theorem Tr.of_same {f : FuncId} {args : List Value} {v : Value} (h : ∀ w, Calls Tryz.prog f args.toArray w fun e w' => e = .returned v ∧ w' = w) : Tr Tryz.prog f args [] fun r Γ => r = v ∧ Γ = [] :=
  Tr.below fun w => (h w).mono fun e w' ⟨he, hw⟩ => ⟨v, he, rfl, by subst hw; exact Below.refl _ _⟩
theorem trimS_nil (s cs : List UInt8) : Lib.trimS s cs = [] ↔ s.all (fun b => cs.contains b) = true := by
  have key : ∀ (l : List UInt8), l.dropWhile (cs.contains ·) = [] ↔ l.all (fun b => cs.contains b) = true := by
    intro l
    induction l with
    | nil => simp
    | cons x l ih =>
      by_cases h : cs.contains x = true
      · rw [List.dropWhile_cons_of_pos h, ih, List.all_cons, h, Bool.true_and]
      · rw [List.dropWhile_cons_of_neg h, List.all_cons]
        have : cs.contains x = false := by simpa using h
        rw [this]; simp
  have key2 : ∀ l : List UInt8, (l.dropWhile (cs.contains ·)).all (fun b => cs.contains b) = true ↔ l.all (fun b => cs.contains b) = true := by
    intro l
    induction l with
    | nil => simp
    | cons x l ih =>
      by_cases h : cs.contains x = true
      · rw [List.dropWhile_cons_of_pos h, ih, List.all_cons, h, Bool.true_and]
      · rw [List.dropWhile_cons_of_neg h]
  unfold Lib.trimS Lib.trimLeftS Lib.trimRightS
  rw [key, List.all_reverse, key2, List.all_reverse]
theorem trim_tr (s cs : List UInt8) (h : cs.all (fun b => decide (b.toNat < 128)) = true) (h2 : cs.length ≤ 1000) (h3 : s.length ≤ 9223372036854775807) : Tr Tryz.prog 80 [vs s, vs cs] [] fun v Γ => (∃ r, v = vs r ∧ (r = [] ↔ s.all (fun b => cs.contains b) = true)) ∧ Γ = [] := by
  refine Tr.of_below fun w => (Any.strings_Trim_laid Tryz.lays160 (by kernel_rfl) (bs s) (bs cs) w (by rw [bs_size]; exact h3) (by rw [bs_size]; omega) (ascii_of_all (by simpa using h))).mono ?_
  rintro e w' ⟨rfl, hb⟩
  exact ⟨⟨_, rfl, Lib.trimS s cs, by simp, trimS_nil s cs⟩, hb⟩
theorem itoa_tr (n : Nat) (h : n < 100) : Tr Tryz.prog 75 [.int .i64 n] [] fun v Γ => v = vs (Lib.decDigits n) ∧ Γ = [] :=
  Tr.of_same fun w => Any.strconv_Itoa_small Tryz.lays171 n h w
end Go.Proofs.YtaeefjcbmkiiaaaGreatDoor
