/- Bytes: numbers, texts, sums, frames: plain. -/
import Derived.Test.YtaeefjcbmkiiaaaGreatDoorM0
namespace Go.Proofs.YtaeefjcbmkiiaaaGreatDoor
open Go Sl
set_option linter.unusedVariables false

/-- The groups of a natural ahead of its last one, the highest first. -/
def natHi (w : Nat) : List UInt8 := if h : w = 0 then [] else natHi (w / 128) ++ [UInt8.ofNat (w % 128 + 128)]
  termination_by w
  decreasing_by omega
def encNat (v : Nat) : List UInt8 := natHi (v / 128) ++ [UInt8.ofNat (v % 128)]
def zig (n : Int) : Nat := if 0 ≤ n then 2 * n.toNat else 2 * (-n - 1).toNat + 1
def encInt (n : Int) : List UInt8 := encNat (zig n)
def encInts (l : List Int) : List UInt8 := l.flatMap encInt
def encText (s : List UInt8) : List UInt8 := encInt s.length ++ s
def encTexts (l : List (List UInt8)) : List UInt8 := l.flatMap encText
/-- How many groups. -/
def glen (w : Nat) : Nat := if h : w = 0 then 0 else glen (w / 128) + 1
  termination_by w
  decreasing_by omega
theorem glen_zero : glen 0 = 0 := by unfold glen; simp
theorem glen_pos {w : Nat} (h : w ≠ 0) : glen w = glen (w / 128) + 1 := by rw [glen, dif_neg h]
theorem natHi_zero : natHi 0 = [] := by unfold natHi; simp
theorem natHi_pos {w : Nat} (h : w ≠ 0) : natHi w = natHi (w / 128) ++ [UInt8.ofNat (w % 128 + 128)] := by rw [natHi, dif_neg h]
theorem natHi_length (w : Nat) : (natHi w).length = glen w := by
  induction w using Nat.strongRecOn with
  | _ w ih =>
    by_cases h : w = 0
    · subst h; rw [natHi_zero, glen_zero]; rfl
    · rw [natHi_pos h, glen_pos h, List.length_append, ih _ (by omega)]; rfl
theorem glen_bound (w : Nat) : ∀ k, w < 128 ^ k → glen w ≤ k := by
  induction w using Nat.strongRecOn with
  | _ w ih =>
    intro k hk
    by_cases h : w = 0
    · subst h; rw [glen_zero]; exact Nat.zero_le _
    · cases k with
      | zero => simp at hk; exact absurd hk h
      | succ k =>
        rw [glen_pos h]
        have : w / 128 < 128 ^ k := by rw [Nat.div_lt_iff_lt_mul (by decide)]; rw [Nat.pow_succ] at hk; exact hk
        exact Nat.succ_le_succ (ih _ (by omega) k this)
theorem glen_top (w : Nat) : w / 128 ^ glen w = 0 := by
  induction w using Nat.strongRecOn with
  | _ w ih =>
    by_cases h : w = 0
    · subst h; simp
    · rw [glen_pos h, Nat.pow_succ, Nat.mul_comm, ← Nat.div_div_eq_div_mul]
      exact ih _ (by omega)
theorem glen_below (w : Nat) : ∀ j, j < glen w → w / 128 ^ j ≠ 0 := by
  induction w using Nat.strongRecOn with
  | _ w ih =>
    intro j hj
    by_cases h : w = 0
    · subst h; rw [glen_zero] at hj; omega
    · cases j with
      | zero => simpa using h
      | succ j =>
        rw [glen_pos h] at hj
        rw [Nat.pow_succ, Nat.mul_comm, ← Nat.div_div_eq_div_mul]
        exact ih _ (by omega) j (by omega)
theorem encNat_length (v : Nat) (h : v < 18446744073709551616) : 1 ≤ (encNat v).length ∧ (encNat v).length ≤ 10 := by
  have : glen (v / 128) ≤ 9 := glen_bound _ 9 (by have : v / 128 < 144115188075855872 := by omega
                                                  omega)
  simp only [encNat, List.length_append, natHi_length, List.length_cons, List.length_nil]
  omega
theorem zig_lt {n : Int} (h1 : -9223372036854775808 ≤ n) (h2 : n ≤ 9223372036854775807) : zig n < 18446744073709551616 := by
  unfold zig; split <;> omega
theorem encInt_length {n : Int} (h1 : -9223372036854775808 ≤ n) (h2 : n ≤ 9223372036854775807) : 1 ≤ (encInt n).length ∧ (encInt n).length ≤ 10 := encNat_length _ (zig_lt h1 h2)

/-! ### sums -/
def crcBit (c : Nat) : Nat := if c % 2 = 1 then (c / 2) ^^^ 2197175160 else c / 2
def crcByte (c : Nat) (b : UInt8) : Nat := crcBit (crcBit (crcBit (crcBit (crcBit (crcBit (crcBit (crcBit (c ^^^ b.toNat))))))))
def crcSum (c : Nat) (s : List UInt8) : Nat := s.foldl crcByte c
def crc (s : List UInt8) : Nat := 4294967295 - crcSum 4294967295 s
def four (v : Nat) : List UInt8 := [UInt8.ofNat (v / 16777216 % 256), UInt8.ofNat (v / 65536 % 256), UInt8.ofNat (v / 256 % 256), UInt8.ofNat (v % 256)]
def frame (s : List UInt8) : List UInt8 := four s.length ++ four (crc (four s.length ++ s)) ++ s
theorem frame_length (s : List UInt8) : (frame s).length = 8 + s.length := by simp [frame, four]; omega
theorem crcSum_append (c : Nat) (a b : List UInt8) : crcSum c (a ++ b) = crcSum (crcSum c a) b := by simp [crcSum]
theorem xor_lt32 {a b : Nat} (h1 : a < 4294967296) (h2 : b < 4294967296) : a ^^^ b < 4294967296 := Nat.xor_lt_two_pow (n := 32) h1 h2
theorem crcBit_lt {c : Nat} (h : c < 4294967296) : crcBit c < 4294967296 := by
  unfold crcBit
  split
  · exact xor_lt32 (by omega) (by decide)
  · omega
theorem crcByte_lt {c : Nat} (h : c < 4294967296) (b : UInt8) : crcByte c b < 4294967296 := by
  have hb : b.toNat < 4294967296 := by have := b.toNat_lt; omega
  unfold crcByte
  iterate 8 apply crcBit_lt
  exact xor_lt32 h hb
theorem crcSum_lt {c : Nat} (h : c < 4294967296) (s : List UInt8) : crcSum c s < 4294967296 := by
  induction s generalizing c with
  | nil => exact h
  | cons b s ih => exact ih (crcByte_lt h b)
end Go.Proofs.YtaeefjcbmkiiaaaGreatDoor
