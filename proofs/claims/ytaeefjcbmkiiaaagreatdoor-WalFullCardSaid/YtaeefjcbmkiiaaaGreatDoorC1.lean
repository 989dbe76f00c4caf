/- The codec's writer, walked. -/
import Derived.Test.YtaeefjcbmkiiaaaGreatDoorC0
import Derived.Test.YtaeefjcbmkiiaaaGreatDoorM1
import Derived.Test.YtaeefjcbmkiiaaaGreatDoorLX
namespace Go.Proofs.YtaeefjcbmkiiaaaGreatDoor
open Go Sl
attribute [local irreducible] J JR JS RO CR Arr Sat Tr sat blk
set_option linter.unusedVariables false
set_option maxHeartbeats 400000
set_option maxRecDepth 4000

theorem fdiv_nat (a b : Nat) : (a : Int).fdiv (b : Int) = ((a / b : Nat) : Int) := by
  rw [Int.fdiv_eq_ediv_of_nonneg _ (Int.natCast_nonneg _)]; rfl
theorem shr_nat (i : IntKind) (v n : Nat) (h : n ≤ i.bits) : (v : Int).fdiv (2 ^ (min (n : Int).toNat i.bits)) = ((v / 2 ^ n : Nat) : Int) := by
  have : min (n : Int).toNat i.bits = n := by rw [Int.toNat_natCast]; exact Nat.min_eq_left h
  rw [this, show ((2 : Int) ^ n) = ((2 ^ n : Nat) : Int) by simp, fdiv_nat]
theorem wrap_u8 (n : Nat) : IntKind.u8.wrap (n : Int) = ((n % 256 : Nat) : Int) := by
  unfold IntKind.wrap; simp [IntKind.bits, IntKind.signed]
theorem wrap_u64 (n : Nat) : IntKind.u64.wrap (n : Int) = ((n % 18446744073709551616 : Nat) : Int) := by
  unfold IntKind.wrap; simp [IntKind.bits, IntKind.signed]
theorem wrap_u32 (n : Nat) : IntKind.u32.wrap (n : Int) = ((n % 4294967296 : Nat) : Int) := by
  unfold IntKind.wrap; simp [IntKind.bits, IntKind.signed]
theorem ofNat_mod (n : Nat) : ((UInt8.ofNat n).toNat : Int) = ((n % 256 : Nat) : Int) := by simp
theorem or128 (x : Nat) (h : x < 256) : x ||| 128 = x % 128 + 128 := by
  have : ∀ x : Fin 256, x.val ||| 128 = x.val % 128 + 128 := by decide
  exact this ⟨x, h⟩
theorem and127 (x : Nat) : x &&& 127 = x % 128 := Nat.and_two_pow_sub_one_eq_mod x 7
theorem byte_or (x : Nat) : IntKind.u8.wrap ((BitVec.ofInt IntKind.u8.bits ((x % 256 : Nat) : Int) ||| BitVec.ofInt IntKind.u8.bits (128 : Int)).toNat : Int) = ((UInt8.ofNat (x % 128 + 128)).toNat : Int) := by
  show IntKind.u8.wrap ((BitVec.ofInt 8 ((x % 256 : Nat) : Int) ||| BitVec.ofInt 8 ((128 : Nat) : Int)).toNat : Int) = _
  rw [BitVec.ofInt_natCast, BitVec.ofInt_natCast, wrap_u8, BitVec.toNat_or, BitVec.toNat_ofNat, BitVec.toNat_ofNat]
  rw [ofNat_mod]
  congr 1
  have : (x % 256 % 2 ^ 8 ||| 128 % 2 ^ 8) = x % 256 ||| 128 := by simp
  rw [this, or128 _ (by omega)]
  omega
theorem byte_and (x : Nat) : IntKind.u8.wrap ((BitVec.ofInt IntKind.u8.bits ((x % 256 : Nat) : Int) &&& BitVec.ofInt IntKind.u8.bits (127 : Int)).toNat : Int) = ((UInt8.ofNat (x % 128)).toNat : Int) := by
  show IntKind.u8.wrap ((BitVec.ofInt 8 ((x % 256 : Nat) : Int) &&& BitVec.ofInt 8 ((127 : Nat) : Int)).toNat : Int) = _
  rw [BitVec.ofInt_natCast, BitVec.ofInt_natCast, wrap_u8, BitVec.toNat_and, BitVec.toNat_ofNat, BitVec.toNat_ofNat]
  rw [ofNat_mod]
  congr 1
  have : (x % 256 % 2 ^ 8 &&& 127 % 2 ^ 8) = x % 256 &&& 127 := by simp
  rw [this, and127]
  omega
theorem pow7 (j : Nat) : 2 ^ (7 * j) = 128 ^ j := by rw [Nat.pow_mul]

theorem natural_tr (E : TypeId) [hE : BdT E] (b : Nat) (p v : Value) (hp : BP b p) (L : List UInt8) (x : Nat) (hx : x < 18446744073709551616) (hl : L.length ≤ 1000000000) :
    Tr Tryz.prog 151 [.pointer (some ⟨b, 0, none⟩), .int .u64 x] [blk b (bcell E p v), sl 5 byteE v L]
      fun r Γ => ∃ v', Γ = [blk b (bcell E (.pointer (some ⟨b, 0, none⟩)) v'), sl 5 byteE v' (L ++ encNat x)] := by
  have hg9 : glen (x / 128) ≤ 9 := glen_bound _ 9 (by have : x / 128 < 144115188075855872 := by omega
                                                      omega)
  refine Tr_of_J Tryz.func151 follows rfl Tryz.ntmps151 (by simp) fun B F => ?_
  repeat' (first | refine shr (r := ((x / 128 : Nat) : Int)) ?_ (shr_nat .u64 x 7 (by decide)) | refine mv ?_ | refine asn ?_ | refine jn ?_ | refine nl ?_ | refine ld rfl ?_ | refine nc ?_ | refine f0 ?_ | refine xt2 ?_ | refine sq ?_ | refine rg ?_ | refine lnb ?_ | refine lls rfl ?_ | refine ad ?_ | refine sb ?_ | refine lss ?_ | refine eql ?_ | refine neq ?_ | refine gtr ?_ | refine geq ?_ | refine leq ?_ | refine nt ?_ | refine pen ?_ | refine pnn ?_ | refine p1 ?_ | refine p0 ?_ | refine sk2 ?_ | refine kp ?_ | refine ct ?_ | refine cf ?_ | (refine cd (fun hc => ?_) (fun hc => ?_) <;> try (exfalso; omega)) | (refine cn (fun hc => ?_) (fun hc => ?_) <;> try (exfalso; omega)) | refine bl ?_ | refine ib ?_ | refine xt ?_ | refine bx (fun b_ => ?_) | refine al (fun b_ => ?_) | refine sr rfl ?_ | refine la rfl ?_ | refine ixa rfl rfl ?_ | refine fe ?_ | refine lde rfl ?_ | refine lae rfl ?_ | refine fa ?_ | refine bld ?_ | refine mf2 ?_ | refine seq ?_ | refine sne ?_ | refine cc ?_ | refine ixb ?_ | refine slb ?_ | refine slbl ?_ | refine slbh ?_ | refine cv ?_ | refine mx ?_ | refine mn ?_ | refine ml ?_ | refine af_ ?_ | (refine gd (fun hc => ?_) (fun hc => ?_) <;> try (exfalso; omega)) | (refine gn (fun hc => ?_) (fun hc => ?_) <;> try (exfalso; omega)) | refine aw ?_ | refine pes ?_ | refine pns ?_ | refine sw ?_ | refine ng ?_ | refine aeq ?_ | refine ane ?_ | refine sli rfl ?_ | refine slil rfl ?_ | refine slih rfl ?_ | refine cb (fun hc => ?_) (fun hc => ?_) | refine gs (fun hc => ?_) (fun hc => ?_) | refine J_draw (id := 7) [(0, true, []), (1, true, []), (2, true, []), (3, true, []), (4, true, []), (5, true, []), (6, true, []), (7, true, []), (8, false, [])] (by kernel_rfl) ?_)
  refine lp (α := Nat × Int × Int) (fun y => [(0, .pointer (some ⟨b, 0, none⟩)), (1, .int .u64 x), (4, .int .i64 y.2.1), (5, .int .u64 y.2.2)]) (fun y => [blk b (bcell E p v), sl 5 byteE v L]) (fun y => y.2.1 = (7 * y.1 : Nat) ∧ y.2.2 = ((x / 128 / 128 ^ y.1 : Nat) : Int) ∧ y.1 ≤ glen (x / 128)) (fun y => glen (x / 128) - y.1) (0, 0, ((x / 128 : Nat) : Int)) ?_ ⟨rfl, by simp, Nat.zero_le _⟩
  rintro ⟨j, n, k⟩ ⟨hn, hk, hj⟩ again
  dsimp only at hn hk hj again ⊢
  subst hn hk
  have hq : ((x / 128 / 128 ^ j / 2 ^ 7 : Nat) : Int) = ((x / 128 / 128 ^ (j + 1) : Nat) : Int) := by
    show ((x / 128 / 128 ^ j / 128 : Nat) : Int) = _
    rw [Nat.div_div_eq_div_mul _ (128 ^ j) 128, ← Nat.pow_succ]
  repeat' (first | refine shr (r := ((x / 128 / 128 ^ (j + 1) : Nat) : Int)) ?_ ((shr_nat .u64 (x / 128 / 128 ^ j) 7 (by decide)).trans hq) | refine mv ?_ | refine asn ?_ | refine jn ?_ | refine nl ?_ | refine ld rfl ?_ | refine nc ?_ | refine f0 ?_ | refine xt2 ?_ | refine sq ?_ | refine rg ?_ | refine lnb ?_ | refine lls rfl ?_ | refine ad ?_ | refine sb ?_ | refine lss ?_ | refine eql ?_ | refine neq ?_ | refine gtr ?_ | refine geq ?_ | refine leq ?_ | refine nt ?_ | refine pen ?_ | refine pnn ?_ | refine p1 ?_ | refine p0 ?_ | refine sk2 ?_ | refine kp ?_ | refine ct ?_ | refine cf ?_ | (refine cd (fun hc => ?_) (fun hc => ?_) <;> try (exfalso; omega)) | (refine cn (fun hc => ?_) (fun hc => ?_) <;> try (exfalso; omega)) | refine bl ?_ | refine ib ?_ | refine xt ?_ | refine bx (fun b_ => ?_) | refine al (fun b_ => ?_) | refine sr rfl ?_ | refine la rfl ?_ | refine ixa rfl rfl ?_ | refine fe ?_ | refine lde rfl ?_ | refine lae rfl ?_ | refine fa ?_ | refine bld ?_ | refine mf2 ?_ | refine seq ?_ | refine sne ?_ | refine cc ?_ | refine ixb ?_ | refine slb ?_ | refine slbl ?_ | refine slbh ?_ | refine cv ?_ | refine mx ?_ | refine mn ?_ | refine ml ?_ | refine af_ ?_ | (refine gd (fun hc => ?_) (fun hc => ?_) <;> try (exfalso; omega)) | (refine gn (fun hc => ?_) (fun hc => ?_) <;> try (exfalso; omega)) | refine aw ?_ | refine pes ?_ | refine pns ?_ | refine sw ?_ | refine ng ?_ | refine aeq ?_ | refine ane ?_ | refine sli rfl ?_ | refine slil rfl ?_ | refine slih rfl ?_ | refine cb (fun hc => ?_) (fun hc => ?_) | refine gs (fun hc => ?_) (fun hc => ?_) | refine J_draw (id := 7) [(0, true, []), (1, true, []), (2, true, []), (3, true, []), (4, true, []), (5, true, []), (6, true, []), (7, true, []), (8, false, [])] (by kernel_rfl) ?_)
  · exact ag (again (j + 1, ((7 * j : Nat) : Int) + 7, ((x / 128 / 128 ^ (j + 1) : Nat) : Int)) ⟨by dsimp only; omega, rfl, by
      dsimp only
      rcases Nat.lt_or_ge j (glen (x / 128)) with h | h
      · exact h
      · have : j = glen (x / 128) := by omega
        rw [this, glen_top] at hc; exact absurd hc (by decide)⟩ (by
      rcases Nat.lt_or_ge j (glen (x / 128)) with h | h
      · dsimp only; omega
      · have : j = glen (x / 128) := by omega
        rw [this, glen_top] at hc; exact absurd hc (by decide)))
  have hjg : j = glen (x / 128) := by
    rcases Nat.lt_or_ge j (glen (x / 128)) with h | h
    · exact absurd (Int.natCast_pos.2 (Nat.pos_of_ne_zero (glen_below _ j h))) hc
    · omega
  subst hjg
  clear again hc hj
  refine J_sat (Γ' := [blk b (bcell E p v), sl 5 byteE v (L ++ natHi (x / 128 / 128 ^ glen (x / 128)))]) ?_ (fun w hS => by rw [glen_top, natHi_zero, List.append_nil]; exact hS)
  refine lp (α := Nat × Int × Value × Value) (fun y => [(0, .pointer (some ⟨b, 0, none⟩)), (1, .int .u64 x), (4, .int .i64 y.2.1)]) (fun y => [blk b (bcell E y.2.2.1 y.2.2.2), sl 5 byteE y.2.2.2 (L ++ natHi (x / 128 / 128 ^ y.1))]) (fun y => y.2.1 = (7 * y.1 : Nat) ∧ y.1 ≤ glen (x / 128) ∧ BP b y.2.2.1) (fun y => y.1) (glen (x / 128), ((7 * glen (x / 128) : Nat) : Int), p, v) ?_ ⟨rfl, Nat.le_refl _, hp⟩
  rintro ⟨j, n, p1, v1⟩ ⟨hn, hj, hp1⟩ again
  dsimp only at hn hj hp1 again ⊢
  subst hn
  have hlen : (L ++ natHi (x / 128 / 128 ^ j)).length + 1 ≤ 140737488355328 := by
    have : glen (x / 128 / 128 ^ j) ≤ 9 := glen_bound _ 9 (by
      have h1 : x / 128 / 128 ^ j ≤ x / 128 := Nat.div_le_self _ _
      have : x / 128 < 144115188075855872 := by omega
      omega)
    rw [List.length_append, natHi_length]; omega
  repeat' (first | (refine shr (r := ((x / 2 ^ (7 * j) : Nat) : Int)) ?_ (shr_nat .u64 x (7 * j) (by show 7 * j ≤ 64; omega))) | (refine cvr (r := ((x / 2 ^ (7 * j) % 256 : Nat) : Int)) ?_ (wrap_u8 _)) | (refine cvr (r := ((x % 256 : Nat) : Int)) ?_ (wrap_u8 _)) | (refine bor ?_ (byte_or (x / 2 ^ (7 * j)))) | (refine band ?_ (byte_and x)) | (refine cl (wbyte_tr E b p1 v1 hp1 _ _ hlen) ?_; rintro r Γ' ⟨v2, rfl⟩; refine n2 ?_) | refine mv ?_ | refine asn ?_ | refine jn ?_ | refine nl ?_ | refine ld rfl ?_ | refine nc ?_ | refine f0 ?_ | refine xt2 ?_ | refine sq ?_ | refine rg ?_ | refine lnb ?_ | refine lls rfl ?_ | refine ad ?_ | refine sb ?_ | refine lss ?_ | refine eql ?_ | refine neq ?_ | refine gtr ?_ | refine geq ?_ | refine leq ?_ | refine nt ?_ | refine pen ?_ | refine pnn ?_ | refine p1 ?_ | refine p0 ?_ | refine sk2 ?_ | refine kp ?_ | refine ct ?_ | refine cf ?_ | (refine cd (fun hc => ?_) (fun hc => ?_) <;> try (exfalso; omega)) | (refine cn (fun hc => ?_) (fun hc => ?_) <;> try (exfalso; omega)) | refine bl ?_ | refine ib ?_ | refine xt ?_ | refine bx (fun b_ => ?_) | refine al (fun b_ => ?_) | refine sr rfl ?_ | refine la rfl ?_ | refine ixa rfl rfl ?_ | refine fe ?_ | refine lde rfl ?_ | refine lae rfl ?_ | refine fa ?_ | refine bld ?_ | refine mf2 ?_ | refine seq ?_ | refine sne ?_ | refine cc ?_ | refine ixb ?_ | refine slb ?_ | refine slbl ?_ | refine slbh ?_ | refine cv ?_ | refine mx ?_ | refine mn ?_ | refine ml ?_ | refine af_ ?_ | (refine gd (fun hc => ?_) (fun hc => ?_) <;> try (exfalso; omega)) | (refine gn (fun hc => ?_) (fun hc => ?_) <;> try (exfalso; omega)) | refine aw ?_ | refine pes ?_ | refine pns ?_ | refine sw ?_ | refine ng ?_ | refine aeq ?_ | refine ane ?_ | refine sli rfl ?_ | refine slil rfl ?_ | refine slih rfl ?_ | refine cb (fun hc => ?_) (fun hc => ?_) | refine gs (fun hc => ?_) (fun hc => ?_) | refine J_draw (id := 7) [(0, true, []), (1, true, []), (2, true, []), (3, true, []), (4, true, []), (5, true, []), (6, true, []), (7, true, []), (8, false, [])] (by kernel_rfl) ?_)
  · obtain ⟨i, rfl⟩ : ∃ i, j = i + 1 := ⟨j - 1, by omega⟩
    have hne := glen_below (x / 128) i (by omega)
    have e1 : x / 2 ^ (7 * (i + 1)) = x / 128 / 128 ^ i := by rw [pow7, Nat.pow_succ, Nat.mul_comm, ← Nat.div_div_eq_div_mul]
    have e2 : L ++ natHi (x / 128 / 128 ^ (i + 1)) ++ [UInt8.ofNat (x / 2 ^ (7 * (i + 1)) % 128 + 128)] = L ++ natHi (x / 128 / 128 ^ i) := by
      rw [e1, natHi_pos hne, List.append_assoc, Nat.pow_succ, ← Nat.div_div_eq_div_mul]
    rw [e2]
    exact ag (again (i, ((7 * (i + 1) : Nat) : Int) - 7, .pointer (some ⟨b, 0, none⟩), v2) ⟨by dsimp only; omega, by dsimp only; omega, .inr rfl⟩ (by dsimp only; omega))
  · have hj0 : j = 0 := by omega
    subst hj0
    rw [Nat.pow_zero, Nat.div_one, List.append_assoc]
    refine rte ?_
    exact ⟨_, ⟨_, rfl⟩, _, by repeat constructor⟩

theorem zig_num (n : Int) (h1 : -9223372036854775808 ≤ n) (h2 : n ≤ 9223372036854775807) : IntKind.u64.wrap ((BitVec.ofInt IntKind.u64.bits (IntKind.u64.wrap (IntKind.u64.wrap n * 2 ^ (min (1 : Int).toNat IntKind.u64.bits))) ^^^ BitVec.ofInt IntKind.u64.bits (IntKind.u64.wrap (n.fdiv (2 ^ (min (63 : Int).toNat IntKind.i64.bits))))).toNat : Int) = ((zig n : Nat) : Int) := by
  have hw : ∀ m : Int, IntKind.u64.wrap m = m % 18446744073709551616 := fun m => by unfold IntKind.wrap; simp [IntKind.bits, IntKind.signed]
  show IntKind.u64.wrap ((BitVec.ofInt 64 (IntKind.u64.wrap (IntKind.u64.wrap n * 2)) ^^^ BitVec.ofInt 64 (IntKind.u64.wrap (n.fdiv 9223372036854775808))).toNat : Int) = _
  rw [hw, hw, hw, hw]
  by_cases h0 : 0 ≤ n
  · have e1 : n.fdiv 9223372036854775808 = 0 := by rw [Int.fdiv_eq_ediv_of_nonneg _ (by decide)]; omega
    obtain ⟨m, rfl⟩ : ∃ m : Nat, n = m := ⟨n.toNat, by omega⟩
    have e2 : (m : Int) % 18446744073709551616 * 2 % 18446744073709551616 = ((2 * m : Nat) : Int) := by omega
    rw [e1, e2]
    show ((BitVec.ofInt 64 ((2 * m : Nat) : Int) ^^^ BitVec.ofInt 64 ((0 : Nat) : Int)).toNat : Int) % _ = _
    rw [BitVec.ofInt_natCast, BitVec.ofInt_natCast, BitVec.toNat_xor, BitVec.toNat_ofNat, BitVec.toNat_ofNat]
    simp only [zig, h0, if_true]
    have e3 : 2 * m % 2 ^ 64 ^^^ 0 % 2 ^ 64 = 2 * m % 2 ^ 64 := by simp
    rw [e3]
    omega
  · have e1 : n.fdiv 9223372036854775808 = -1 := by rw [Int.fdiv_eq_ediv_of_nonneg _ (by decide)]; omega
    obtain ⟨m, hm⟩ : ∃ m : Nat, n = -(m : Int) - 1 := ⟨(-n - 1).toNat, by omega⟩
    have e2 : n % 18446744073709551616 * 2 % 18446744073709551616 = ((18446744073709551614 - 2 * m : Nat) : Int) := by omega
    rw [e1, e2]
    show ((BitVec.ofInt 64 ((18446744073709551614 - 2 * m : Nat) : Int) ^^^ BitVec.ofInt 64 ((18446744073709551615 : Nat) : Int)).toNat : Int) % _ = _
    rw [BitVec.ofInt_natCast, BitVec.ofInt_natCast, show BitVec.ofNat 64 18446744073709551615 = BitVec.allOnes 64 from rfl, BitVec.xor_allOnes, BitVec.toNat_not, BitVec.toNat_ofNat]
    simp only [zig, h0, if_false]
    omega
theorem int_tr (E : TypeId) [hE : BdT E] (b : Nat) (p v : Value) (hp : BP b p) (L : List UInt8) (n : Int) (h1 : -9223372036854775808 ≤ n) (h2 : n ≤ 9223372036854775807) (hl : L.length ≤ 1000000000) :
    Tr Tryz.prog 101 [.pointer (some ⟨b, 0, none⟩), .int .i64 n] [blk b (bcell E p v), sl 5 byteE v L]
      fun r Γ => ∃ v', Γ = [blk b (bcell E (.pointer (some ⟨b, 0, none⟩)) v'), sl 5 byteE v' (L ++ encInt n)] := by
  refine Tr_of_J Tryz.func101 follows rfl Tryz.ntmps101 (by simp) fun B F => ?_
  repeat' (first | refine shl ?_ | refine shr ?_ | refine bxor ?_ (zig_num n h1 h2) | (refine cl (natural_tr E b p v hp L (zig n) (zig_lt h1 h2) hl) ?_; rintro r Γ' ⟨v2, rfl⟩; refine n2 ?_) | refine mv ?_ | refine asn ?_ | refine jn ?_ | refine nl ?_ | refine ld rfl ?_ | refine nc ?_ | refine f0 ?_ | refine xt2 ?_ | refine sq ?_ | refine rg ?_ | refine lnb ?_ | refine lls rfl ?_ | refine ad ?_ | refine sb ?_ | refine lss ?_ | refine eql ?_ | refine neq ?_ | refine gtr ?_ | refine geq ?_ | refine leq ?_ | refine nt ?_ | refine pen ?_ | refine pnn ?_ | refine p1 ?_ | refine p0 ?_ | refine sk2 ?_ | refine kp ?_ | refine ct ?_ | refine cf ?_ | (refine cd (fun hc => ?_) (fun hc => ?_) <;> try (exfalso; omega)) | (refine cn (fun hc => ?_) (fun hc => ?_) <;> try (exfalso; omega)) | refine bl ?_ | refine ib ?_ | refine xt ?_ | refine bx (fun b_ => ?_) | refine al (fun b_ => ?_) | refine sr rfl ?_ | refine la rfl ?_ | refine ixa rfl rfl ?_ | refine fe ?_ | refine lde rfl ?_ | refine lae rfl ?_ | refine fa ?_ | refine bld ?_ | refine mf2 ?_ | refine seq ?_ | refine sne ?_ | refine cc ?_ | refine ixb ?_ | refine slb ?_ | refine slbl ?_ | refine slbh ?_ | refine cv ?_ | refine mx ?_ | refine mn ?_ | refine ml ?_ | refine af_ ?_ | (refine gd (fun hc => ?_) (fun hc => ?_) <;> try (exfalso; omega)) | (refine gn (fun hc => ?_) (fun hc => ?_) <;> try (exfalso; omega)) | refine aw ?_ | refine pes ?_ | refine pns ?_ | refine sw ?_ | refine ng ?_ | refine aeq ?_ | refine ane ?_ | refine sli rfl ?_ | refine slil rfl ?_ | refine slih rfl ?_ | refine cb (fun hc => ?_) (fun hc => ?_) | refine gs (fun hc => ?_) (fun hc => ?_))
  refine rte ?_
  exact ⟨_, ⟨_, rfl⟩, _, by repeat constructor⟩
theorem text_tr (E : TypeId) [hE : BdT E] (b : Nat) (p v : Value) (hp : BP b p) (L s : List UInt8) (hs : s.length ≤ 1000000000) (hl : L.length ≤ 1000000000) :
    Tr Tryz.prog 149 [.pointer (some ⟨b, 0, none⟩), vs s] [blk b (bcell E p v), sl 5 byteE v L]
      fun r Γ => ∃ v', Γ = [blk b (bcell E (.pointer (some ⟨b, 0, none⟩)) v'), sl 5 byteE v' (L ++ encText s)] := by
  have hq := (encInt_length (n := s.length) (by omega) (by omega)).2
  refine Tr_of_J Tryz.func149 follows rfl Tryz.ntmps149 (by simp) fun B F => ?_
  repeat' (first | (refine cl (int_tr E b p v hp L s.length (by omega) (by omega) hl) ?_; rintro r Γ' ⟨v2, rfl⟩; refine n2 ?_) | (refine cl (wstr_tr E b (.pointer (some ⟨b, 0, none⟩)) v2 (.inr rfl) (L ++ encInt s.length) s (by rw [List.length_append]; omega)) ?_; rintro r Γ' ⟨v3, rfl⟩; refine n2 ?_) | refine mv ?_ | refine asn ?_ | refine jn ?_ | refine nl ?_ | refine ld rfl ?_ | refine nc ?_ | refine f0 ?_ | refine xt2 ?_ | refine sq ?_ | refine rg ?_ | refine lnb ?_ | refine lls rfl ?_ | refine ad ?_ | refine sb ?_ | refine lss ?_ | refine eql ?_ | refine neq ?_ | refine gtr ?_ | refine geq ?_ | refine leq ?_ | refine nt ?_ | refine pen ?_ | refine pnn ?_ | refine p1 ?_ | refine p0 ?_ | refine sk2 ?_ | refine kp ?_ | refine ct ?_ | refine cf ?_ | (refine cd (fun hc => ?_) (fun hc => ?_) <;> try (exfalso; omega)) | (refine cn (fun hc => ?_) (fun hc => ?_) <;> try (exfalso; omega)) | refine bl ?_ | refine ib ?_ | refine xt ?_ | refine bx (fun b_ => ?_) | refine al (fun b_ => ?_) | refine sr rfl ?_ | refine la rfl ?_ | refine ixa rfl rfl ?_ | refine fe ?_ | refine lde rfl ?_ | refine lae rfl ?_ | refine fa ?_ | refine bld ?_ | refine mf2 ?_ | refine seq ?_ | refine sne ?_ | refine cc ?_ | refine ixb ?_ | refine slb ?_ | refine slbl ?_ | refine slbh ?_ | refine cv ?_ | refine mx ?_ | refine mn ?_ | refine ml ?_ | refine af_ ?_ | (refine gd (fun hc => ?_) (fun hc => ?_) <;> try (exfalso; omega)) | (refine gn (fun hc => ?_) (fun hc => ?_) <;> try (exfalso; omega)) | refine aw ?_ | refine pes ?_ | refine pns ?_ | refine sw ?_ | refine ng ?_ | refine aeq ?_ | refine ane ?_ | refine sli rfl ?_ | refine slil rfl ?_ | refine slih rfl ?_ | refine cb (fun hc => ?_) (fun hc => ?_) | refine gs (fun hc => ?_) (fun hc => ?_))
  rw [List.append_assoc]
  refine rte ?_
  exact ⟨_, ⟨_, rfl⟩, _, by repeat constructor⟩
instance : TEnc 3 intE := ⟨trivial⟩
instance : TEnc 9 strE := ⟨trivial⟩
/-- All of a list, one behind another: numbers. -/
theorem eachInt_tr (E : TypeId) [hE : BdT E] (b : Nat) (p v lv : Value) (hp : BP b p) (L : List UInt8) (l : List Int) (hr : ∀ n ∈ l, -9223372036854775808 ≤ n ∧ n ≤ 9223372036854775807) (hl : L.length + 10 * l.length ≤ 1000000000) :
    Tr Tryz.prog 100 [lv, .func (.func 101) ⟨[.pointer (some ⟨b, 0, none⟩)]⟩ #[]] [sl 3 intE lv l, blk b (bcell E p v), sl 5 byteE v L]
      fun r Γ => ∃ p' v', BP b p' ∧ Γ = [sl 3 intE lv l, blk b (bcell E p' v'), sl 5 byteE v' (L ++ encInts l)] := by
  have hlen : ∀ i, i ≤ l.length → (encInts (l.take i)).length ≤ 10 * i := by
    intro i
    induction i with
    | zero => intro _; simp [encInts]
    | succ i ih =>
      intro hi
      rw [List.take_succ_eq_append_getElem (by omega), encInts, List.flatMap_append, List.length_append]
      have h1 := ih (by omega)
      have h2 := hr (l[i]'(by omega)) (List.getElem_mem _)
      have := (encInt_length h2.1 h2.2).2
      simp only [List.flatMap_cons, List.flatMap_nil, List.append_nil]
      unfold encInts at h1
      omega
  refine Tr_of_J Tryz.func100 follows rfl Tryz.ntmps100 (by simp) fun B F => ?_
  repeat' (first | refine mv ?_ | refine asn ?_ | refine jn ?_ | refine nl ?_ | refine ld rfl ?_ | refine nc ?_ | refine f0 ?_ | refine xt2 ?_ | refine sq ?_ | refine rg ?_ | refine lnb ?_ | refine lls rfl ?_ | refine ad ?_ | refine sb ?_ | refine lss ?_ | refine eql ?_ | refine neq ?_ | refine gtr ?_ | refine geq ?_ | refine leq ?_ | refine nt ?_ | refine pen ?_ | refine pnn ?_ | refine p1 ?_ | refine p0 ?_ | refine sk2 ?_ | refine kp ?_ | refine ct ?_ | refine cf ?_ | (refine cd (fun hc => ?_) (fun hc => ?_) <;> try (exfalso; omega)) | (refine cn (fun hc => ?_) (fun hc => ?_) <;> try (exfalso; omega)) | refine bl ?_ | refine ib ?_ | refine xt ?_ | refine bx (fun b_ => ?_) | refine al (fun b_ => ?_) | refine sr rfl ?_ | refine la rfl ?_ | refine ixa rfl rfl ?_ | refine fe ?_ | refine lde rfl ?_ | refine lae rfl ?_ | refine fa ?_ | refine bld ?_ | refine mf2 ?_ | refine seq ?_ | refine sne ?_ | refine cc ?_ | refine ixb ?_ | refine slb ?_ | refine slbl ?_ | refine slbh ?_ | refine cv ?_ | refine mx ?_ | refine mn ?_ | refine ml ?_ | refine af_ ?_ | (refine gd (fun hc => ?_) (fun hc => ?_) <;> try (exfalso; omega)) | (refine gn (fun hc => ?_) (fun hc => ?_) <;> try (exfalso; omega)) | refine aw ?_ | refine pes ?_ | refine pns ?_ | refine sw ?_ | refine ng ?_ | refine aeq ?_ | refine ane ?_ | refine sli rfl ?_ | refine slil rfl ?_ | refine slih rfl ?_ | refine cb (fun hc => ?_) (fun hc => ?_) | refine gs (fun hc => ?_) (fun hc => ?_))
  refine lp (α := Nat × Int × Value × Value × List UInt8) (fun y => [(1, .func (.func 101) ⟨[.pointer (some ⟨b, 0, none⟩)]⟩ #[]), (6, lv), (7, .int .i64 l.length), (8, .int .i64 y.2.1)]) (fun y => [sl 3 intE lv l, blk b (bcell E y.2.2.1 y.2.2.2.1), sl 5 byteE y.2.2.2.1 y.2.2.2.2]) (fun y => y.2.1 = (y.1 : Int) ∧ y.1 ≤ l.length ∧ BP b y.2.2.1 ∧ y.2.2.2.2 = L ++ encInts (l.take y.1)) (fun y => l.length - y.1) (0, 0, p, v, L) ?_ ⟨rfl, Nat.zero_le _, hp, by simp [encInts]⟩
  rintro ⟨i, n, p1, v1, W⟩ ⟨hn, hi, hp1, hW⟩ again
  dsimp only at hn hi hp1 hW again ⊢
  subst hn
  have hL : W.length ≤ 1000000000 := by have := hlen i hi; rw [hW, List.length_append]; omega
  have hgd : i < l.length → -9223372036854775808 ≤ l.getD i 0 ∧ l.getD i 0 ≤ 9223372036854775807 := fun h => by
    rw [List.getD_eq_getElem?_getD, List.getElem?_eq_getElem h]; exact hr _ (List.getElem_mem h)
  repeat' (first | (refine cl3 rfl (int_tr E b p1 v1 hp1 W (l.getD i 0) (hgd (by omega)).1 (hgd (by omega)).2 hL) ?_; rintro r Γ' ⟨v2, rfl⟩; refine n2 ?_) | refine mv ?_ | refine asn ?_ | refine jn ?_ | refine nl ?_ | refine ld rfl ?_ | refine nc ?_ | refine f0 ?_ | refine xt2 ?_ | refine sq ?_ | refine rg ?_ | refine lnb ?_ | refine lls rfl ?_ | refine ad ?_ | refine sb ?_ | refine lss ?_ | refine eql ?_ | refine neq ?_ | refine gtr ?_ | refine geq ?_ | refine leq ?_ | refine nt ?_ | refine pen ?_ | refine pnn ?_ | refine p1 ?_ | refine p0 ?_ | refine sk2 ?_ | refine kp ?_ | refine ct ?_ | refine cf ?_ | (refine cd (fun hc => ?_) (fun hc => ?_) <;> try (exfalso; omega)) | (refine cn (fun hc => ?_) (fun hc => ?_) <;> try (exfalso; omega)) | refine bl ?_ | refine ib ?_ | refine xt ?_ | refine bx (fun b_ => ?_) | refine al (fun b_ => ?_) | refine sr rfl ?_ | refine la rfl ?_ | refine ixa rfl rfl ?_ | refine fe ?_ | refine lde rfl ?_ | refine lae rfl ?_ | refine fa ?_ | refine bld ?_ | refine mf2 ?_ | refine seq ?_ | refine sne ?_ | refine cc ?_ | refine ixb ?_ | refine slb ?_ | refine slbl ?_ | refine slbh ?_ | refine cv ?_ | refine mx ?_ | refine mn ?_ | refine ml ?_ | refine af_ ?_ | (refine gd (fun hc => ?_) (fun hc => ?_) <;> try (exfalso; omega)) | (refine gn (fun hc => ?_) (fun hc => ?_) <;> try (exfalso; omega)) | refine aw ?_ | refine pes ?_ | refine pns ?_ | refine sw ?_ | refine ng ?_ | refine aeq ?_ | refine ane ?_ | refine sli rfl ?_ | refine slil rfl ?_ | refine slih rfl ?_ | refine cb (fun hc => ?_) (fun hc => ?_) | refine gs (fun hc => ?_) (fun hc => ?_))
  · have hi' : i < l.length := by omega
    exact ag (again (i + 1, (i : Int) + 1, .pointer (some ⟨b, 0, none⟩), v2, W ++ encInt (l.getD i 0)) ⟨by dsimp only; omega, hi', .inr rfl, by
      dsimp only
      rw [hW, List.take_succ_eq_append_getElem hi', encInts, encInts, List.flatMap_append, List.getD_eq_getElem?_getD, List.getElem?_eq_getElem hi']
      simp⟩ (by dsimp only; omega))
  · have hil : i = l.length := by omega
    rw [hil, List.take_length] at hW
    subst hW
    refine rte ?_
    exact ⟨_, ⟨_, _, hp1, rfl⟩, _, by repeat constructor⟩
/-- .. texts. -/
theorem eachText_tr (E : TypeId) [hE : BdT E] (b : Nat) (p v lv : Value) (hp : BP b p) (L : List UInt8) (l : List (List UInt8)) (hr : ∀ s ∈ l, s.length ≤ 1000000) (hl : L.length + 1000010 * l.length ≤ 1000000000) :
    Tr Tryz.prog 148 [lv, .func (.func 149) ⟨[.pointer (some ⟨b, 0, none⟩)]⟩ #[]] [sl 9 strE lv l, blk b (bcell E p v), sl 5 byteE v L]
      fun r Γ => ∃ p' v', BP b p' ∧ Γ = [sl 9 strE lv l, blk b (bcell E p' v'), sl 5 byteE v' (L ++ encTexts l)] := by
  have hlen : ∀ i, i ≤ l.length → (encTexts (l.take i)).length ≤ 1000010 * i := by
    intro i
    induction i with
    | zero => intro _; simp [encTexts]
    | succ i ih =>
      intro hi
      rw [List.take_succ_eq_append_getElem (by omega), encTexts, List.flatMap_append, List.length_append]
      have h1 := ih (by omega)
      have h2 := hr (l[i]'(by omega)) (List.getElem_mem _)
      have := (encInt_length (n := (l[i]'(by omega)).length) (by omega) (by omega)).2
      simp only [List.flatMap_cons, List.flatMap_nil, List.append_nil, encText, List.length_append]
      unfold encTexts at h1
      omega
  refine Tr_of_J Tryz.func148 follows rfl Tryz.ntmps148 (by simp) fun B F => ?_
  repeat' (first | refine mv ?_ | refine asn ?_ | refine jn ?_ | refine nl ?_ | refine ld rfl ?_ | refine nc ?_ | refine f0 ?_ | refine xt2 ?_ | refine sq ?_ | refine rg ?_ | refine lnb ?_ | refine lls rfl ?_ | refine ad ?_ | refine sb ?_ | refine lss ?_ | refine eql ?_ | refine neq ?_ | refine gtr ?_ | refine geq ?_ | refine leq ?_ | refine nt ?_ | refine pen ?_ | refine pnn ?_ | refine p1 ?_ | refine p0 ?_ | refine sk2 ?_ | refine kp ?_ | refine ct ?_ | refine cf ?_ | (refine cd (fun hc => ?_) (fun hc => ?_) <;> try (exfalso; omega)) | (refine cn (fun hc => ?_) (fun hc => ?_) <;> try (exfalso; omega)) | refine bl ?_ | refine ib ?_ | refine xt ?_ | refine bx (fun b_ => ?_) | refine al (fun b_ => ?_) | refine sr rfl ?_ | refine la rfl ?_ | refine ixa rfl rfl ?_ | refine fe ?_ | refine lde rfl ?_ | refine lae rfl ?_ | refine fa ?_ | refine bld ?_ | refine mf2 ?_ | refine seq ?_ | refine sne ?_ | refine cc ?_ | refine ixb ?_ | refine slb ?_ | refine slbl ?_ | refine slbh ?_ | refine cv ?_ | refine mx ?_ | refine mn ?_ | refine ml ?_ | refine af_ ?_ | (refine gd (fun hc => ?_) (fun hc => ?_) <;> try (exfalso; omega)) | (refine gn (fun hc => ?_) (fun hc => ?_) <;> try (exfalso; omega)) | refine aw ?_ | refine pes ?_ | refine pns ?_ | refine sw ?_ | refine ng ?_ | refine aeq ?_ | refine ane ?_ | refine sli rfl ?_ | refine slil rfl ?_ | refine slih rfl ?_ | refine cb (fun hc => ?_) (fun hc => ?_) | refine gs (fun hc => ?_) (fun hc => ?_))
  refine lp (α := Nat × Int × Value × Value × List UInt8) (fun y => [(1, .func (.func 149) ⟨[.pointer (some ⟨b, 0, none⟩)]⟩ #[]), (6, lv), (7, .int .i64 l.length), (8, .int .i64 y.2.1)]) (fun y => [sl 9 strE lv l, blk b (bcell E y.2.2.1 y.2.2.2.1), sl 5 byteE y.2.2.2.1 y.2.2.2.2]) (fun y => y.2.1 = (y.1 : Int) ∧ y.1 ≤ l.length ∧ BP b y.2.2.1 ∧ y.2.2.2.2 = L ++ encTexts (l.take y.1)) (fun y => l.length - y.1) (0, 0, p, v, L) ?_ ⟨rfl, Nat.zero_le _, hp, by simp [encTexts]⟩
  rintro ⟨i, n, p1, v1, W⟩ ⟨hn, hi, hp1, hW⟩ again
  dsimp only at hn hi hp1 hW again ⊢
  subst hn
  have hL : W.length ≤ 1000000000 := by have := hlen i hi; rw [hW, List.length_append]; omega
  have hgd : i < l.length → (l.getD i []).length ≤ 1000000 := fun h => by
    rw [List.getD_eq_getElem?_getD, List.getElem?_eq_getElem h]; exact hr _ (List.getElem_mem h)
  repeat' (first | (refine cl3 rfl (text_tr E b p1 v1 hp1 W (l.getD i []) (by have := hgd (by omega); omega) hL) ?_; rintro r Γ' ⟨v2, rfl⟩; refine n2 ?_) | refine mv ?_ | refine asn ?_ | refine jn ?_ | refine nl ?_ | refine ld rfl ?_ | refine nc ?_ | refine f0 ?_ | refine xt2 ?_ | refine sq ?_ | refine rg ?_ | refine lnb ?_ | refine lls rfl ?_ | refine ad ?_ | refine sb ?_ | refine lss ?_ | refine eql ?_ | refine neq ?_ | refine gtr ?_ | refine geq ?_ | refine leq ?_ | refine nt ?_ | refine pen ?_ | refine pnn ?_ | refine p1 ?_ | refine p0 ?_ | refine sk2 ?_ | refine kp ?_ | refine ct ?_ | refine cf ?_ | (refine cd (fun hc => ?_) (fun hc => ?_) <;> try (exfalso; omega)) | (refine cn (fun hc => ?_) (fun hc => ?_) <;> try (exfalso; omega)) | refine bl ?_ | refine ib ?_ | refine xt ?_ | refine bx (fun b_ => ?_) | refine al (fun b_ => ?_) | refine sr rfl ?_ | refine la rfl ?_ | refine ixa rfl rfl ?_ | refine fe ?_ | refine lde rfl ?_ | refine lae rfl ?_ | refine fa ?_ | refine bld ?_ | refine mf2 ?_ | refine seq ?_ | refine sne ?_ | refine cc ?_ | refine ixb ?_ | refine slb ?_ | refine slbl ?_ | refine slbh ?_ | refine cv ?_ | refine mx ?_ | refine mn ?_ | refine ml ?_ | refine af_ ?_ | (refine gd (fun hc => ?_) (fun hc => ?_) <;> try (exfalso; omega)) | (refine gn (fun hc => ?_) (fun hc => ?_) <;> try (exfalso; omega)) | refine aw ?_ | refine pes ?_ | refine pns ?_ | refine sw ?_ | refine ng ?_ | refine aeq ?_ | refine ane ?_ | refine sli rfl ?_ | refine slil rfl ?_ | refine slih rfl ?_ | refine cb (fun hc => ?_) (fun hc => ?_) | refine gs (fun hc => ?_) (fun hc => ?_))
  · have hi' : i < l.length := by omega
    exact ag (again (i + 1, (i : Int) + 1, .pointer (some ⟨b, 0, none⟩), v2, W ++ encText (l.getD i [])) ⟨by dsimp only; omega, hi', .inr rfl, by
      dsimp only
      rw [hW, List.take_succ_eq_append_getElem hi', encTexts, encTexts, List.flatMap_append, List.getD_eq_getElem?_getD, List.getElem?_eq_getElem hi']
      simp⟩ (by dsimp only; omega))
  · have hil : i = l.length := by omega
    rw [hil, List.take_length] at hW
    subst hW
    refine rte ?_
    exact ⟨_, ⟨_, _, hp1, rfl⟩, _, by repeat constructor⟩
theorem encInt_ne (n : Int) : encInt n ≠ [] := by simp [encInt, encNat]
theorem Int_tr (lv : Value) (l : List Int) (hne : l ≠ []) (hr : ∀ n ∈ l, -9223372036854775808 ≤ n ∧ n ≤ 9223372036854775807) (hl : l.length ≤ 100000) :
    Tr Tryz.prog 61 [lv] [sl 3 intE lv l] fun r Γ => r = vs (encInts l) ∧ Γ = [sl 3 intE lv l] := by
  have hne' : encInts l ≠ [] := by
    cases l with
    | nil => exact absurd rfl hne
    | cons n l => simp [encInts, encInt_ne]
  refine Tr_of_J Tryz.func61 follows rfl Tryz.ntmps61 (by simp) fun B F => ?_
  repeat' (first | (refine bx (fun b => ?_)) | refine mv ?_ | refine asn ?_ | refine jn ?_ | refine nl ?_ | refine ld rfl ?_ | refine nc ?_ | refine f0 ?_ | refine xt2 ?_ | refine sq ?_ | refine rg ?_ | refine lnb ?_ | refine lls rfl ?_ | refine ad ?_ | refine sb ?_ | refine lss ?_ | refine eql ?_ | refine neq ?_ | refine gtr ?_ | refine geq ?_ | refine leq ?_ | refine nt ?_ | refine pen ?_ | refine pnn ?_ | refine p1 ?_ | refine p0 ?_ | refine sk2 ?_ | refine kp ?_ | refine ct ?_ | refine cf ?_ | (refine cd (fun hc => ?_) (fun hc => ?_) <;> try (exfalso; omega)) | (refine cn (fun hc => ?_) (fun hc => ?_) <;> try (exfalso; omega)) | refine bl ?_ | refine ib ?_ | refine xt ?_ | refine bx (fun b_ => ?_) | refine al (fun b_ => ?_) | refine sr rfl ?_ | refine la rfl ?_ | refine ixa rfl rfl ?_ | refine fe ?_ | refine lde rfl ?_ | refine lae rfl ?_ | refine fa ?_ | refine bld ?_ | refine mf2 ?_ | refine seq ?_ | refine sne ?_ | refine cc ?_ | refine ixb ?_ | refine slb ?_ | refine slbl ?_ | refine slbh ?_ | refine cv ?_ | refine mx ?_ | refine mn ?_ | refine ml ?_ | refine af_ ?_ | (refine gd (fun hc => ?_) (fun hc => ?_) <;> try (exfalso; omega)) | (refine gn (fun hc => ?_) (fun hc => ?_) <;> try (exfalso; omega)) | refine aw ?_ | refine pes ?_ | refine pns ?_ | refine sw ?_ | refine ng ?_ | refine aeq ?_ | refine ane ?_ | refine sli rfl ?_ | refine slil rfl ?_ | refine slih rfl ?_ | refine cb (fun hc => ?_) (fun hc => ?_) | refine gs (fun hc => ?_) (fun hc => ?_))
  refine JR_sat (Γ' := sl 5 byteE (.slice none 0 0) [] :: _) ?_ fun w hS => sl_nil hS
  repeat' (first | (refine cl (eachInt_tr 155 b (.pointer none) (.slice none 0 0) lv (.inl rfl) [] l hr (by simp; omega)) ?_; rintro r Γ' ⟨p2, v2, hp2, rfl⟩; refine n3 ?_) | (refine cl (str_tr 155 b p2 v2 (encInts l) hne') ?_; rintro r Γ' ⟨rfl, rfl⟩; refine n1 ?_) | refine mv ?_ | refine asn ?_ | refine jn ?_ | refine nl ?_ | refine ld rfl ?_ | refine nc ?_ | refine f0 ?_ | refine xt2 ?_ | refine sq ?_ | refine rg ?_ | refine lnb ?_ | refine lls rfl ?_ | refine ad ?_ | refine sb ?_ | refine lss ?_ | refine eql ?_ | refine neq ?_ | refine gtr ?_ | refine geq ?_ | refine leq ?_ | refine nt ?_ | refine pen ?_ | refine pnn ?_ | refine p1 ?_ | refine p0 ?_ | refine sk2 ?_ | refine kp ?_ | refine ct ?_ | refine cf ?_ | (refine cd (fun hc => ?_) (fun hc => ?_) <;> try (exfalso; omega)) | (refine cn (fun hc => ?_) (fun hc => ?_) <;> try (exfalso; omega)) | refine bl ?_ | refine ib ?_ | refine xt ?_ | refine bx (fun b_ => ?_) | refine al (fun b_ => ?_) | refine sr rfl ?_ | refine la rfl ?_ | refine ixa rfl rfl ?_ | refine fe ?_ | refine lde rfl ?_ | refine lae rfl ?_ | refine fa ?_ | refine bld ?_ | refine mf2 ?_ | refine seq ?_ | refine sne ?_ | refine cc ?_ | refine ixb ?_ | refine slb ?_ | refine slbl ?_ | refine slbh ?_ | refine cv ?_ | refine mx ?_ | refine mn ?_ | refine ml ?_ | refine af_ ?_ | (refine gd (fun hc => ?_) (fun hc => ?_) <;> try (exfalso; omega)) | (refine gn (fun hc => ?_) (fun hc => ?_) <;> try (exfalso; omega)) | refine aw ?_ | refine pes ?_ | refine pns ?_ | refine sw ?_ | refine ng ?_ | refine aeq ?_ | refine ane ?_ | refine sli rfl ?_ | refine slil rfl ?_ | refine slih rfl ?_ | refine cb (fun hc => ?_) (fun hc => ?_) | refine gs (fun hc => ?_) (fun hc => ?_))
  refine rt ?_
  exact ⟨_, ⟨rfl, rfl⟩, _, by repeat constructor⟩
theorem Text_tr (lv : Value) (l : List (List UInt8)) (hne : l ≠ []) (hr : ∀ s ∈ l, s.length ≤ 1000000) (hl : l.length ≤ 100) :
    Tr Tryz.prog 98 [lv] [sl 9 strE lv l] fun r Γ => r = vs (encTexts l) ∧ Γ = [sl 9 strE lv l] := by
  have hne' : encTexts l ≠ [] := by
    cases l with
    | nil => exact absurd rfl hne
    | cons n l => simp [encTexts, encText, encInt_ne]
  refine Tr_of_J Tryz.func98 follows rfl Tryz.ntmps98 (by simp) fun B F => ?_
  repeat' (first | (refine bx (fun b => ?_)) | refine mv ?_ | refine asn ?_ | refine jn ?_ | refine nl ?_ | refine ld rfl ?_ | refine nc ?_ | refine f0 ?_ | refine xt2 ?_ | refine sq ?_ | refine rg ?_ | refine lnb ?_ | refine lls rfl ?_ | refine ad ?_ | refine sb ?_ | refine lss ?_ | refine eql ?_ | refine neq ?_ | refine gtr ?_ | refine geq ?_ | refine leq ?_ | refine nt ?_ | refine pen ?_ | refine pnn ?_ | refine p1 ?_ | refine p0 ?_ | refine sk2 ?_ | refine kp ?_ | refine ct ?_ | refine cf ?_ | (refine cd (fun hc => ?_) (fun hc => ?_) <;> try (exfalso; omega)) | (refine cn (fun hc => ?_) (fun hc => ?_) <;> try (exfalso; omega)) | refine bl ?_ | refine ib ?_ | refine xt ?_ | refine bx (fun b_ => ?_) | refine al (fun b_ => ?_) | refine sr rfl ?_ | refine la rfl ?_ | refine ixa rfl rfl ?_ | refine fe ?_ | refine lde rfl ?_ | refine lae rfl ?_ | refine fa ?_ | refine bld ?_ | refine mf2 ?_ | refine seq ?_ | refine sne ?_ | refine cc ?_ | refine ixb ?_ | refine slb ?_ | refine slbl ?_ | refine slbh ?_ | refine cv ?_ | refine mx ?_ | refine mn ?_ | refine ml ?_ | refine af_ ?_ | (refine gd (fun hc => ?_) (fun hc => ?_) <;> try (exfalso; omega)) | (refine gn (fun hc => ?_) (fun hc => ?_) <;> try (exfalso; omega)) | refine aw ?_ | refine pes ?_ | refine pns ?_ | refine sw ?_ | refine ng ?_ | refine aeq ?_ | refine ane ?_ | refine sli rfl ?_ | refine slil rfl ?_ | refine slih rfl ?_ | refine cb (fun hc => ?_) (fun hc => ?_) | refine gs (fun hc => ?_) (fun hc => ?_))
  refine JR_sat (Γ' := sl 5 byteE (.slice none 0 0) [] :: _) ?_ fun w hS => sl_nil hS
  repeat' (first | (refine cl (eachText_tr 155 b (.pointer none) (.slice none 0 0) lv (.inl rfl) [] l hr (by simp; omega)) ?_; rintro r Γ' ⟨p2, v2, hp2, rfl⟩; refine n3 ?_) | (refine cl (str_tr 155 b p2 v2 (encTexts l) hne') ?_; rintro r Γ' ⟨rfl, rfl⟩; refine n1 ?_) | refine mv ?_ | refine asn ?_ | refine jn ?_ | refine nl ?_ | refine ld rfl ?_ | refine nc ?_ | refine f0 ?_ | refine xt2 ?_ | refine sq ?_ | refine rg ?_ | refine lnb ?_ | refine lls rfl ?_ | refine ad ?_ | refine sb ?_ | refine lss ?_ | refine eql ?_ | refine neq ?_ | refine gtr ?_ | refine geq ?_ | refine leq ?_ | refine nt ?_ | refine pen ?_ | refine pnn ?_ | refine p1 ?_ | refine p0 ?_ | refine sk2 ?_ | refine kp ?_ | refine ct ?_ | refine cf ?_ | (refine cd (fun hc => ?_) (fun hc => ?_) <;> try (exfalso; omega)) | (refine cn (fun hc => ?_) (fun hc => ?_) <;> try (exfalso; omega)) | refine bl ?_ | refine ib ?_ | refine xt ?_ | refine bx (fun b_ => ?_) | refine al (fun b_ => ?_) | refine sr rfl ?_ | refine la rfl ?_ | refine ixa rfl rfl ?_ | refine fe ?_ | refine lde rfl ?_ | refine lae rfl ?_ | refine fa ?_ | refine bld ?_ | refine mf2 ?_ | refine seq ?_ | refine sne ?_ | refine cc ?_ | refine ixb ?_ | refine slb ?_ | refine slbl ?_ | refine slbh ?_ | refine cv ?_ | refine mx ?_ | refine mn ?_ | refine ml ?_ | refine af_ ?_ | (refine gd (fun hc => ?_) (fun hc => ?_) <;> try (exfalso; omega)) | (refine gn (fun hc => ?_) (fun hc => ?_) <;> try (exfalso; omega)) | refine aw ?_ | refine pes ?_ | refine pns ?_ | refine sw ?_ | refine ng ?_ | refine aeq ?_ | refine ane ?_ | refine sli rfl ?_ | refine slil rfl ?_ | refine slih rfl ?_ | refine cb (fun hc => ?_) (fun hc => ?_) | refine gs (fun hc => ?_) (fun hc => ?_))
  refine rt ?_
  exact ⟨_, ⟨rfl, rfl⟩, _, by repeat constructor⟩
end Go.Proofs.YtaeefjcbmkiiaaaGreatDoor
