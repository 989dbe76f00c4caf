/- The document's answer to codec, as far as it does not panic: bytes of some kind. -/
import Derived.Test.YtaeefjcbmkiiaaaGreatDoorVX4
set_option linter.unusedVariables false
set_option linter.unusedSimpArgs false
namespace Go.Proofs.YtaeefjcbmkiiaaaGreatDoor
open Go Sl
attribute [local irreducible] J JR JS RO CR Arr Sat Tr sat blk
set_option linter.unusedVariables false
set_option maxHeartbeats 1000000
set_option maxRecDepth 4000
/-- Numbers of 64 and of 32 bits. -/
def U64 (n : Int) : Prop := 0 ≤ n ∧ n < 18446744073709551616
def U32 (n : Int) : Prop := 0 ≤ n ∧ n < 4294967296
theorem wrap_u64' (n : Int) : IntKind.u64.wrap n = n % 18446744073709551616 := by unfold IntKind.wrap; simp [IntKind.bits, IntKind.signed]
theorem wrap_u32' (n : Int) : IntKind.u32.wrap n = n % 4294967296 := by unfold IntKind.wrap; simp [IntKind.bits, IntKind.signed]
theorem wrap_u8' (n : Int) : IntKind.u8.wrap n = n % 256 := by unfold IntKind.wrap; simp [IntKind.bits, IntKind.signed]
theorem u8_is (n : Int) : ∃ x : UInt8, IntKind.u8.wrap n = (x.toNat : Int) := by
  refine ⟨UInt8.ofNat (n % 256).toNat, ?_⟩
  rw [wrap_u8', UInt8.toNat_ofNat']; omega
theorem rnat_tr (n : Int) (hn : I64 n) : Tr Tryz.prog 158 [.int .i64 n] [] fun v Γ => (∃ u : Int, v = .int .u64 u ∧ U64 u) ∧ Γ = [] := by
  refine Tr_of_J Tryz.func158 follows rfl Tryz.ntmps158 (by simp) fun B F => ?_
  repeat' (first | refine mw ?_ | refine mv ?_ | refine asn ?_ | refine jn ?_ | refine nl ?_ | refine sq ?_ | refine rg ?_ | refine ad ?_ | refine geq ?_ | refine kp ?_ | refine ct ?_ | refine cf ?_ | (refine cd (fun hc => ?_) (fun hc => ?_) <;> try (exfalso; omega)) | (refine cn (fun hc => ?_) (fun hc => ?_) <;> try (exfalso; omega)) | refine bl ?_ | refine ib ?_ | refine xt ?_ | refine cc ?_ | refine cv ?_ | refine ml ?_ | refine af_ ?_ | refine aw ?_ | refine ng ?_ | refine cb (fun hc => ?_) (fun hc => ?_) | fail)
  all_goals refine rt ?_
  all_goals refine ⟨_, ⟨⟨_, rfl, ?_⟩, rfl⟩, _, by repeat constructor⟩
  all_goals (rw [wrap_u64']; unfold U64; omega)
theorem q64 {u : Int} (h : U64 u) : IntKind.u64.wrap (u.tdiv 128) = u / 128 := by
  unfold U64 at h
  rw [Int.tdiv_eq_ediv_of_nonneg h.1, wrap_u64']; omega
theorem rint_tr (n : Int) (hn : I64 n) : Tr Tryz.prog 110 [.int .i64 n] [] fun v Γ => (∃ s : List UInt8, v = vs s ∧ s.length ≤ 11) ∧ Γ = [] := by
  refine Tr_of_J Tryz.func110 follows rfl Tryz.ntmps110 (by simp) fun B F => ?_
  repeat' (first | (refine cle rfl (rnat_tr n hn) ?_; rintro r Γ' ⟨⟨u, rfl, hu⟩, rfl⟩; refine n0 ?_) | refine rem ?_ | refine quo ?_ (q64 hu) | refine cvr ?_ (u8_is (u.tmod 128)).choose_spec | refine bsl (e := byteE) (X := [(u8_is (u.tmod 128)).choose]) (fun v2 => ?_) (.cona rfl rfl .nil) | refine mv ?_ | refine asn ?_ | refine jn ?_ | refine nl ?_ | refine sq ?_ | refine rg ?_ | refine ad ?_ | refine gtr ?_ | refine kp ?_ | refine ct ?_ | refine cf ?_ | (refine cd (fun hc => ?_) (fun hc => ?_) <;> try (exfalso; omega)) | (refine cn (fun hc => ?_) (fun hc => ?_) <;> try (exfalso; omega)) | refine bl ?_ | refine ib ?_ | refine xt ?_ | refine cc ?_ | refine cv ?_ | refine af_ ?_ | refine aw ?_ | refine cb (fun hc => ?_) (fun hc => ?_) | fail)
  have hu1 := hu.1
  have hu2 := hu.2
  have hg0 : glen (u / 128).toNat ≤ 9 := glen_bound _ 9 (by omega)
  refine lp (α := Int × Value × List UInt8) (fun y => [(3, .int .u64 y.1), (4, y.2.1)]) (fun y => [sl 5 byteE y.2.1 y.2.2]) (fun y => U64 y.1 ∧ glen y.1.toNat + y.2.2.length ≤ 11) (fun y => y.1.toNat) (u / 128, v2, [(u8_is (u.tmod 128)).choose]) ?_ ⟨by unfold U64; dsimp only; omega, by dsimp only; simp; omega⟩
  clear hu hu1 hu2 hg0
  rintro ⟨u, v, L⟩ ⟨hu, hL⟩ again
  dsimp only at hu hL again ⊢
  have hu1 := hu.1
  have hLl : L.length ≤ 11 := by omega
  repeat' (first | refine rem ?_ | refine quo ?_ (q64 hu) | refine cvr ?_ (u8_is (IntKind.u64.wrap (128 + u.tmod 128))).choose_spec | refine bsl (e := byteE) (X := [(u8_is (IntKind.u64.wrap (128 + u.tmod 128))).choose]) (fun v2 => ?_) (.cona rfl rfl .nil) | refine aw ?_ | refine apo rfl rfl (fun v3 => ?_) (by simp; omega) (by simp; omega) | refine bst rfl ?_ | refine mv ?_ | refine asn ?_ | refine jn ?_ | refine nl ?_ | refine sq ?_ | refine rg ?_ | refine ad ?_ | refine gtr ?_ | refine kp ?_ | refine ct ?_ | refine cf ?_ | (refine cd (fun hc => ?_) (fun hc => ?_) <;> try (exfalso; omega)) | (refine cn (fun hc => ?_) (fun hc => ?_) <;> try (exfalso; omega)) | refine bl ?_ | refine ib ?_ | refine xt ?_ | refine cc ?_ | refine cv ?_ | refine af_ ?_ | refine aw ?_ | refine cb (fun hc => ?_) (fun hc => ?_) | fail)
  · have hpos : 0 < u := by omega
    have hg1 : glen u.toNat = glen (u.toNat / 128) + 1 := glen_pos (by omega)
    have hg2 : (u / 128).toNat = u.toNat / 128 := by omega
    have hu2 := hu.2
    exact ag (again (u / 128, v3, [(u8_is (IntKind.u64.wrap (128 + u.tmod 128))).choose] ++ L) ⟨by unfold U64; dsimp only; omega, by dsimp only; rw [hg2, List.length_append, List.length_singleton]; omega⟩ (by dsimp only; omega))
  · refine rt ?_
    exact ⟨_, ⟨⟨L, rfl, hLl⟩, rfl⟩, _, by repeat constructor⟩
theorem rfour_tr (n : Int) (hn : U32 n) : Tr Tryz.prog 108 [.int .u32 n] [] fun v Γ => (∃ s : List UInt8, v = vs s ∧ s.length = 4) ∧ Γ = [] := by
  refine Tr_of_J Tryz.func108 follows rfl Tryz.ntmps108 (by simp) fun B F => ?_
  repeat' (first | refine rem ?_ | refine quo ?_ | refine cvr ?_ (u8_is (IntKind.u32.wrap (n.tdiv 16777216))).choose_spec | refine cvr ?_ (u8_is ((IntKind.u32.wrap (n.tdiv 65536)).tmod 256)).choose_spec | refine cvr ?_ (u8_is ((IntKind.u32.wrap (n.tdiv 256)).tmod 256)).choose_spec | refine cvr ?_ (u8_is (n.tmod 256)).choose_spec | refine bsl (e := byteE) (X := [(u8_is (IntKind.u32.wrap (n.tdiv 16777216))).choose, (u8_is ((IntKind.u32.wrap (n.tdiv 65536)).tmod 256)).choose, (u8_is ((IntKind.u32.wrap (n.tdiv 256)).tmod 256)).choose, (u8_is (n.tmod 256)).choose]) (fun v2 => ?_) (.cona rfl rfl (.cona rfl rfl (.cona rfl rfl (.cona rfl rfl .nil)))) | refine bst rfl ?_ | refine mv ?_ | refine asn ?_ | refine jn ?_ | refine nl ?_ | refine sq ?_ | refine rg ?_ | refine kp ?_ | refine ct ?_ | refine cf ?_ | (refine cd (fun hc => ?_) (fun hc => ?_) <;> try (exfalso; omega)) | (refine cn (fun hc => ?_) (fun hc => ?_) <;> try (exfalso; omega)) | refine bl ?_ | refine ib ?_ | refine xt ?_ | refine cv ?_ | refine af_ ?_ | refine cb (fun hc => ?_) (fun hc => ?_) | fail)
  refine rt ?_
  exact ⟨_, ⟨⟨_, rfl, rfl⟩, rfl⟩, _, by repeat constructor⟩
theorem U32w (n : Int) : U32 (IntKind.u32.wrap n) := by rw [wrap_u32']; unfold U32; omega
theorem rcrc_tr (s : List UInt8) (hs : s.length ≤ 1000000) : Tr Tryz.prog 109 [vs s] [] fun v Γ => (∃ n : Int, v = .int .u32 n ∧ U32 n) ∧ Γ = [] := by
  refine Tr_of_J Tryz.func109 follows rfl Tryz.ntmps109 (by simp) fun B F => ?_
  repeat' (first | refine mv ?_ | refine asn ?_ | refine jn ?_ | refine nl ?_ | refine sq ?_ | refine rg ?_ | refine lnb ?_ | refine lls rfl ?_ | refine ad ?_ | refine lss ?_ | refine eql ?_ | refine kp ?_ | refine ct ?_ | refine cf ?_ | (refine cd (fun hc => ?_) (fun hc => ?_) <;> try (exfalso; omega)) | (refine cn (fun hc => ?_) (fun hc => ?_) <;> try (exfalso; omega)) | refine bl ?_ | refine ib ?_ | refine xt ?_ | refine cc ?_ | refine ixb ?_ | refine cv ?_ | refine af_ ?_ | refine aw ?_ | refine cb (fun hc => ?_) (fun hc => ?_) | fail)
  refine lp (α := Nat × Int × Int) (fun y => [(0, vs s), (3, .int .u32 y.2.2), (4, .int .i64 y.2.1)]) (fun y => []) (fun y => y.2.1 = (y.1 : Int) ∧ y.1 ≤ s.length ∧ U32 y.2.2) (fun y => s.length - y.1) (0, 0, 4294967295) ?_ ⟨rfl, Nat.zero_le _, by decide, by decide⟩
  rintro ⟨i, n, c⟩ ⟨hn, hi, hc⟩ again
  dsimp only at hn hi hc again ⊢
  subst hn
  repeat' (first | refine bxor ?_ | refine mv ?_ | refine asn ?_ | refine jn ?_ | refine nl ?_ | refine sq ?_ | refine rg ?_ | refine lnb ?_ | refine lls rfl ?_ | refine ad ?_ | refine lss ?_ | refine eql ?_ | refine kp ?_ | refine ct ?_ | refine cf ?_ | (refine cd (fun hc => ?_) (fun hc => ?_) <;> try (exfalso; omega)) | (refine cn (fun hc => ?_) (fun hc => ?_) <;> try (exfalso; omega)) | refine bl ?_ | refine ib ?_ | refine xt ?_ | refine cc ?_ | refine ixb ?_ | refine cv ?_ | refine af_ ?_ | refine aw ?_ | refine cb (fun hc => ?_) (fun hc => ?_) | fail)
  · have hi' : i < s.length := by omega
    refine lp (α := Nat × Int × Int) (fun y => [(0, vs s), (3, .int .u32 y.2.2), (4, .int .i64 i), (5, .int .i64 y.2.1)]) (fun y => []) (fun y => y.2.1 = (y.1 : Int) ∧ y.1 ≤ 8 ∧ U32 y.2.2) (fun y => 8 - y.1) (0, 0, _) ?_ ⟨rfl, Nat.zero_le _, U32w _⟩
    rintro ⟨j, n, d⟩ ⟨hn, hj, hd⟩ again2
    dsimp only at hn hj hd again2 ⊢
    subst hn
    repeat' (first | refine rem ?_ | refine quo ?_ | refine bxor ?_ | refine mv ?_ | refine asn ?_ | refine jn ?_ | refine nl ?_ | refine sq ?_ | refine rg ?_ | refine lnb ?_ | refine lls rfl ?_ | refine ad ?_ | refine lss ?_ | refine eql ?_ | refine kp ?_ | refine ct ?_ | refine cf ?_ | (refine cd (fun hc => ?_) (fun hc => ?_) <;> try (exfalso; omega)) | (refine cn (fun hc => ?_) (fun hc => ?_) <;> try (exfalso; omega)) | refine bl ?_ | refine ib ?_ | refine xt ?_ | refine cc ?_ | refine ixb ?_ | refine cv ?_ | refine af_ ?_ | refine aw ?_ | refine cb (fun hc => ?_) (fun hc => ?_) | fail)
    · exact ag (again2 (j + 1, (j : Int) + 1, _) ⟨by dsimp only; omega, by dsimp only; omega, U32w _⟩ (by dsimp only; omega))
    · exact ag (again2 (j + 1, (j : Int) + 1, _) ⟨by dsimp only; omega, by dsimp only; omega, U32w _⟩ (by dsimp only; omega))
    · exact ag (again (i + 1, (i : Int) + 1, d) ⟨by dsimp only; omega, by dsimp only; omega, hd⟩ (by dsimp only; omega))
  · refine rt ?_
    exact ⟨_, ⟨⟨_, rfl, U32w _⟩, rfl⟩, _, by repeat constructor⟩
theorem rframe_tr (s : List UInt8) (hs : s.length ≤ 60000) : Tr Tryz.prog 73 [vs s] [] fun v Γ => (∃ t : List UInt8, v = .tuple #[vs t, .int .i64 0] ∧ t.length ≤ 8 + s.length) ∧ Γ = [] := by
  refine Tr_of_J Tryz.func73 follows rfl Tryz.ntmps73 (by simp) fun B F => ?_
  repeat' (first | (refine cle rfl (rfour_tr (IntKind.u32.wrap s.length) (U32w _)) ?_; rintro r Γ' ⟨⟨t, rfl, ht⟩, rfl⟩; refine n0 ?_) | (refine cle rfl (rcrc_tr (t ++ s) (by simp; omega)) ?_; rintro r Γ' ⟨⟨c, rfl, hc⟩, rfl⟩; refine n0 ?_) | (refine cle rfl (rfour_tr c hc) ?_; rintro r Γ' ⟨⟨t2, rfl, ht2⟩, rfl⟩; refine n0 ?_) | refine cc ?_ rfl rfl (by simp; omega) | refine mv ?_ | refine asn ?_ | refine jn ?_ | refine nl ?_ | refine sq ?_ | refine rg ?_ | refine lnb ?_ | refine lls rfl ?_ | refine ad ?_ | refine gtr ?_ | refine kp ?_ | refine ct ?_ | refine cf ?_ | (refine cd (fun hc => ?_) (fun hc => ?_) <;> try (exfalso; omega)) | (refine cn (fun hc => ?_) (fun hc => ?_) <;> try (exfalso; omega)) | refine bl ?_ | refine ib ?_ | refine xt ?_ | refine cc ?_ | refine cv ?_ | refine af_ ?_ | refine aw ?_ | refine cb (fun hc => ?_) (fun hc => ?_) | fail)
  refine rt ?_
  exact ⟨_, ⟨⟨_, rfl, by simp; omega⟩, rfl⟩, _, by repeat constructor⟩
/-- A record's cells. -/
abbrev recV (k t v : Int) (e : Ent) : Value := .agg ⟨[.int .i64 k, .int .i64 t, .int .i64 v, .int .i64 e.index, .int .i64 e.term, .int .i64 e.kind, vs e.data]⟩
theorem rpayload_tr (t v : Int) (ht : I64 t) (hv : I64 v) (e : Ent) : Tr Tryz.prog 74 [recV 1 t v e] [] fun v Γ => (∃ s : List UInt8, v = vs s ∧ s.length ≤ 33) ∧ Γ = [] := by
  refine Tr_of_J Tryz.func74 follows rfl Tryz.ntmps74 (by simp) fun B F => ?_
  repeat' (first | (refine cle rfl (rint_tr 1 (by decide)) ?_; rintro r Γ' ⟨⟨s1, rfl, h1⟩, rfl⟩; refine n0 ?_) | (refine cle rfl (rint_tr t ht) ?_; rintro r Γ' ⟨⟨s2, rfl, h2⟩, rfl⟩; refine n0 ?_) | (refine cle rfl (rint_tr v hv) ?_; rintro r Γ' ⟨⟨s3, rfl, h3⟩, rfl⟩; refine n0 ?_) | refine cc ?_ rfl rfl (by simp; omega) | refine asn ?_ | refine jn ?_ | refine nl ?_ | refine ld rfl ?_ | refine f0 ?_ | refine sq ?_ | refine rg ?_ | refine ad ?_ | refine eql ?_ | refine kp ?_ | refine ct ?_ | refine cf ?_ | (refine cd (fun hc => ?_) (fun hc => ?_) <;> try (exfalso; omega)) | (refine cn (fun hc => ?_) (fun hc => ?_) <;> try (exfalso; omega)) | refine bl ?_ | refine ib ?_ | refine xt ?_ | refine bx (fun b_ => ?_) | refine al (fun b_ => ?_) | refine sr rfl ?_ | refine la rfl ?_ | refine fe ?_ | refine lde rfl ?_ | refine lae rfl ?_ | refine fa ?_ | refine cc ?_ | refine af_ ?_ | refine aw ?_ | refine cb (fun hc => ?_) (fun hc => ?_) | refine J_draw (id := 3) [(1, true, []), (2, true, []), (3, true, []), (6, true, []), (7, true, []), (8, true, []), (0, false, [1, 2, 3, 6, 7, 8]), (4, false, [6, 7, 8]), (5, true, []), (9, false, [5]), (10, true, []), (11, true, [])] (by kernel_rfl) ?_ | refine J_draw (id := 6) [(1, true, []), (2, true, []), (5, true, []), (6, true, []), (9, true, []), (10, true, []), (13, true, []), (14, true, []), (0, false, [1, 2, 5, 6, 9, 10, 13, 14]), (3, false, [5, 6, 9, 10, 13, 14]), (4, true, []), (7, false, [9, 10, 13, 14, 4]), (8, true, []), (11, false, [13, 14, 4, 8]), (12, true, []), (15, false, [4, 8, 12]), (16, true, []), (17, true, [])] (by kernel_rfl) ?_ | refine JS_cons rfl rfl (RO_fieldAddr0 rfl) ?_ | refine JS_cons rfl rfl (RO_load rfl (by rfl)) ?_ | refine JS_off rfl ?_ | refine JS_cons rfl rfl (RO_fieldAddr rfl) ?_ | refine JS_cons rfl rfl (RO_add_in rfl rfl (by omega)) ?_ | refine JS_cons rfl rfl (RO_fe rfl) ?_ | refine JS_cons rfl rfl (RO_lde rfl (by omega) rfl) ?_ | refine JS_offu rfl ?_ | refine JS_cons rfl rfl (RO_cc rfl rfl (by omega)) ?_ | refine JS_cons rfl rfl (RO_lae rfl (by omega) (by repeat constructor)) ?_ | refine JS_cons rfl rfl (RO_loadAgg rfl (by repeat constructor)) ?_ | fail)
  refine rt ?_
  exact ⟨_, ⟨⟨_, rfl, by simp; omega⟩, rfl⟩, _, by repeat constructor⟩
theorem rrec_tr (t v : Int) (ht : I64 t) (hv : I64 v) (e : Ent) : Tr Tryz.prog 63 [recV 1 t v e] [] fun v Γ => (∃ s : List UInt8, v = vs s ∧ s.length ≤ 41) ∧ Γ = [] := by
  refine Tr_of_J Tryz.func63 follows rfl Tryz.ntmps63 (by simp) fun B F => ?_
  repeat' (first | (refine cle rfl (rpayload_tr t v ht hv e) ?_; rintro r Γ' ⟨⟨s, rfl, hs⟩, rfl⟩; refine n0 ?_) | (refine cle rfl (rframe_tr s (by omega)) ?_; rintro r Γ' ⟨⟨t, rfl, ht⟩, rfl⟩; refine n0 ?_) | refine mv ?_ | refine asn ?_ | refine jn ?_ | refine nl ?_ | refine ld rfl ?_ | refine xt2 ?_ | refine sq ?_ | refine rg ?_ | refine kp ?_ | refine ct ?_ | refine cf ?_ | (refine cd (fun hc => ?_) (fun hc => ?_) <;> try (exfalso; omega)) | (refine cn (fun hc => ?_) (fun hc => ?_) <;> try (exfalso; omega)) | refine bl ?_ | refine ib ?_ | refine xt ?_ | refine bx (fun b_ => ?_) | refine la rfl ?_ | refine lde rfl ?_ | refine lae rfl ?_ | refine af_ ?_ | refine cb (fun hc => ?_) (fun hc => ?_) | fail)
  refine rt ?_
  exact ⟨_, ⟨⟨_, rfl, by omega⟩, rfl⟩, _, by repeat constructor⟩
end Go.Proofs.YtaeefjcbmkiiaaaGreatDoor
/- The document's answer to disk, as far as it does not panic. -/
namespace Go.Proofs.YtaeefjcbmkiiaaaGreatDoor
open Go Sl
attribute [local irreducible] J JR JS RO CR Arr Sat Tr sat blk
set_option linter.unusedVariables false
set_option maxHeartbeats 1000000
set_option maxRecDepth 4000
structure RF where
  name : List UInt8
  bytes : List UInt8
  synced : Int
def rfE : EncT RF where
  enc f := [vs f.name, vs f.bytes, .int .i64 f.synced]
  dec := fun l => match l with | [.string a, .string b, .int _ c] => ⟨a.data.toList, b.data.toList, c⟩ | _ => ⟨[], [], 0⟩
  sz := 3
  dflt := ⟨[], [], 0⟩
  len _ := rfl
  ok _ := rfl
  pos := by decide
instance : TEnc 89 rfE := ⟨trivial⟩
abbrev rfV (f : RF) : Value := .agg ⟨[vs f.name, vs f.bytes, .int .i64 f.synced]⟩
abbrev rcell (lv : Value) (most fused : Int) (gone : Bool) : Obj := .cells ⟨[lv, .int .i64 most, .int .i64 fused, .bool gone]⟩ 41 (0, 0)
theorem rnew_tr (most : Int) : Tr Tryz.prog 35 [.int .i64 most] [] fun v Γ => ∃ r b, v = .tuple #[.pointer (some ⟨r, 0, none⟩), .bool b] ∧ Γ = [blk r (rcell (.slice none 0 0) most (-1) false)] := by
  refine Tr_of_J Tryz.func35 follows rfl Tryz.ntmps35 (by simp) fun B F => ?_
  repeat' (first | refine mv ?_ | refine asn ?_ | refine jn ?_ | refine nl ?_ | refine sq ?_ | refine rg ?_ | refine geq ?_ | refine leq ?_ | refine p1 ?_ | refine p0 ?_ | refine sk2 ?_ | refine kp ?_ | refine ct ?_ | refine cf ?_ | (refine cd (fun hc => ?_) (fun hc => ?_) <;> try (exfalso; omega)) | (refine cn (fun hc => ?_) (fun hc => ?_) <;> try (exfalso; omega)) | refine bl ?_ | refine ib ?_ | refine xt ?_ | refine bx (fun b_ => ?_) | refine bld ?_ | refine af_ ?_ | (refine gd (fun hc => ?_) (fun hc => ?_) <;> try (exfalso; omega)) | (refine gn (fun hc => ?_) (fun hc => ?_) <;> try (exfalso; omega)) | refine cb (fun hc => ?_) (fun hc => ?_) | refine gs (fun hc => ?_) (fun hc => ?_) | fail)
  all_goals refine rt ?_
  all_goals exact ⟨_, ⟨_, _, rfl, rfl⟩, _, by repeat constructor⟩
theorem rname_tr (s : List UInt8) (hs : s.length ≤ 1000000) : Tr Tryz.prog 152 [vs s] [] fun v Γ => (∃ b, v = .bool b) ∧ Γ = [] := by
  refine Tr_of_J Tryz.func152 follows rfl Tryz.ntmps152 (by simp) fun B F => ?_
  repeat' (first | refine mv ?_ | refine asn ?_ | refine jn ?_ | refine nl ?_ | refine sq ?_ | refine rg ?_ | refine lnb ?_ | refine lls rfl ?_ | refine ad ?_ | refine lss ?_ | refine gtr ?_ | refine geq ?_ | refine leq ?_ | refine p1 ?_ | refine p0 ?_ | refine sk2 ?_ | refine kp ?_ | refine ct ?_ | refine cf ?_ | (refine cd (fun hc => ?_) (fun hc => ?_) <;> try (exfalso; omega)) | (refine cn (fun hc => ?_) (fun hc => ?_) <;> try (exfalso; omega)) | refine bl ?_ | refine ib ?_ | refine xt ?_ | refine cc ?_ | refine ixb ?_ | refine af_ ?_ | (refine gd (fun hc => ?_) (fun hc => ?_) <;> try (exfalso; omega)) | (refine gn (fun hc => ?_) (fun hc => ?_) <;> try (exfalso; omega)) | refine aw ?_ | refine cb (fun hc => ?_) (fun hc => ?_) | refine gs (fun hc => ?_) (fun hc => ?_) | fail)
  refine lp (α := Nat × Int) (fun y => [(0, vs s), (3, .int .i64 y.2)]) (fun y => []) (fun y => y.2 = (y.1 : Int) ∧ y.1 ≤ s.length) (fun y => s.length - y.1) (0, 0) ?_ ⟨rfl, Nat.zero_le _⟩
  rintro ⟨i, n⟩ ⟨hn, hi⟩ again
  dsimp only at hn hi again ⊢
  subst hn
  repeat' (first | refine sku ?_ | refine mv ?_ | refine asn ?_ | refine jn ?_ | refine nl ?_ | refine sq ?_ | refine rg ?_ | refine lnb ?_ | refine lls rfl ?_ | refine ad ?_ | refine lss ?_ | refine gtr ?_ | refine geq ?_ | refine leq ?_ | refine p1 ?_ | refine p0 ?_ | refine sk2 ?_ | refine kp ?_ | refine ct ?_ | refine cf ?_ | (refine cd (fun hc => ?_) (fun hc => ?_) <;> try (exfalso; omega)) | (refine cn (fun hc => ?_) (fun hc => ?_) <;> try (exfalso; omega)) | refine bl ?_ | refine ib ?_ | refine xt ?_ | refine cc ?_ | refine ixb ?_ | refine af_ ?_ | (refine gd (fun hc => ?_) (fun hc => ?_) <;> try (exfalso; omega)) | (refine gn (fun hc => ?_) (fun hc => ?_) <;> try (exfalso; omega)) | refine aw ?_ | refine cb (fun hc => ?_) (fun hc => ?_) | refine gs (fun hc => ?_) (fun hc => ?_) | fail)
  all_goals first
    | (refine rt ?_
       exact ⟨_, ⟨⟨_, rfl⟩, rfl⟩, _, by repeat constructor⟩)
    | (refine rte ?_
       exact ⟨_, ⟨⟨_, rfl⟩, rfl⟩, _, by repeat constructor⟩)
    | exact ag (again (i + 1, (i : Int) + 1) ⟨(by dsimp only; omega), (by dsimp only; omega)⟩ (by dsimp only; omega))
theorem rfind_tr (r : Nat) (lv : Value) (L : List RF) (most fused : Int) (gone : Bool) (s : List UInt8) (hL : L.length ≤ 1000000) : Tr Tryz.prog 153 [.pointer (some ⟨r, 0, none⟩), vs s] [blk r (rcell lv most fused gone), sl 89 rfE lv L]
    fun v Γ => (∃ (i : Nat) (b : Bool), v = .tuple #[.int .i64 i, .bool b] ∧ i ≤ L.length ∧ (b = true → i < L.length)) ∧ Γ = [blk r (rcell lv most fused gone), sl 89 rfE lv L] := by
  refine Tr_of_J Tryz.func153 follows rfl Tryz.ntmps153 (by simp) fun B F => ?_
  repeat' (first | refine mv ?_ | refine asn ?_ | refine jn ?_ | refine nl ?_ | refine ld rfl ?_ | refine nc ?_ | refine f0 ?_ | refine sq ?_ | refine rg ?_ | refine lnb ?_ | refine lls rfl ?_ | refine ad ?_ | refine lss ?_ | refine p1 ?_ | refine p0 ?_ | refine sk2 ?_ | refine kp ?_ | refine ct ?_ | refine cf ?_ | (refine cd (fun hc => ?_) (fun hc => ?_) <;> try (exfalso; omega)) | (refine cn (fun hc => ?_) (fun hc => ?_) <;> try (exfalso; omega)) | refine bl ?_ | refine ib ?_ | refine xt ?_ | refine la rfl ?_ | refine ixa rfl rfl ?_ | refine fe ?_ | refine lde rfl ?_ | refine lae rfl ?_ | refine fa ?_ | refine seq ?_ | refine cc ?_ | refine af_ ?_ | (refine gd (fun hc => ?_) (fun hc => ?_) <;> try (exfalso; omega)) | (refine gn (fun hc => ?_) (fun hc => ?_) <;> try (exfalso; omega)) | refine aw ?_ | refine cb (fun hc => ?_) (fun hc => ?_) | refine gs (fun hc => ?_) (fun hc => ?_) | refine J_draw (id := 4) [(0, true, []), (1, true, []), (2, true, []), (3, true, []), (4, true, []), (5, true, []), (6, true, []), (7, true, []), (8, true, []), (9, true, []), (10, true, []), (11, true, []), (12, true, []), (13, true, []), (14, true, []), (15, true, []), (16, true, []), (17, true, []), (18, true, []), (19, true, []), (20, true, []), (21, true, [])] (by kernel_rfl) ?_ | fail)
  refine lp (α := Nat × Int) (fun y => [(0, .pointer (some ⟨r, 0, none⟩)), (1, vs s), (6, .int .i64 y.2)]) (fun y => [blk r (rcell lv most fused gone), sl 89 rfE lv L]) (fun y => y.2 = (y.1 : Int) ∧ y.1 ≤ L.length) (fun y => L.length - y.1) (0, 0) ?_ ⟨rfl, Nat.zero_le _⟩
  rintro ⟨i, n⟩ ⟨hn, hi⟩ again
  dsimp only at hn hi again ⊢
  subst hn
  repeat' (first | refine ssl ?_ | refine mv ?_ | refine asn ?_ | refine jn ?_ | refine nl ?_ | refine ld rfl ?_ | refine nc ?_ | refine f0 ?_ | refine sq ?_ | refine rg ?_ | refine lnb ?_ | refine lls rfl ?_ | refine ad ?_ | refine lss ?_ | refine p1 ?_ | refine p0 ?_ | refine sk2 ?_ | refine kp ?_ | refine ct ?_ | refine cf ?_ | (refine cd (fun hc => ?_) (fun hc => ?_) <;> try (exfalso; omega)) | (refine cn (fun hc => ?_) (fun hc => ?_) <;> try (exfalso; omega)) | refine bl ?_ | refine ib ?_ | refine xt ?_ | refine la rfl ?_ | refine ixa rfl rfl ?_ | refine fe ?_ | refine lde rfl ?_ | refine lae rfl ?_ | refine fa ?_ | refine seq ?_ | refine cc ?_ | refine af_ ?_ | (refine gd (fun hc => ?_) (fun hc => ?_) <;> try (exfalso; omega)) | (refine gn (fun hc => ?_) (fun hc => ?_) <;> try (exfalso; omega)) | refine aw ?_ | refine cb (fun hc => ?_) (fun hc => ?_) | refine gs (fun hc => ?_) (fun hc => ?_) | refine J_draw (id := 4) [(0, true, []), (1, true, []), (2, true, []), (3, true, []), (4, true, []), (5, true, []), (6, true, []), (7, true, []), (8, true, []), (9, true, []), (10, true, []), (11, true, []), (12, true, []), (13, true, []), (14, true, []), (15, true, []), (16, true, []), (17, true, []), (18, true, []), (19, true, []), (20, true, []), (21, true, [])] (by kernel_rfl) ?_ | fail)
  · exact ag (again (i + 1, (i : Int) + 1) ⟨by dsimp only; omega, by dsimp only; omega⟩ (by dsimp only; omega))
  · refine rt ?_
    exact ⟨_, ⟨⟨i, _, rfl, hi, fun _ => by omega⟩, rfl⟩, _, by repeat constructor⟩
  · refine rt ?_
    exact ⟨_, ⟨⟨i, _, rfl, hi, fun h => by cases h⟩, rfl⟩, _, by repeat constructor⟩
theorem rsize_tr (r : Nat) (lv : Value) (L : List RF) (most fused : Int) (gone : Bool) (hL : L.length ≤ 1000000) : Tr Tryz.prog 154 [.pointer (some ⟨r, 0, none⟩)] [blk r (rcell lv most fused gone), sl 89 rfE lv L]
    fun v Γ => (∃ n, v = .int .i64 n) ∧ Γ = [blk r (rcell lv most fused gone), sl 89 rfE lv L] := by
  refine Tr_of_J Tryz.func154 follows rfl Tryz.ntmps154 (by simp) fun B F => ?_
  repeat' (first | refine mv ?_ | refine asn ?_ | refine jn ?_ | refine nl ?_ | refine ld rfl ?_ | refine nc ?_ | refine f0 ?_ | refine sq ?_ | refine rg ?_ | refine lnb ?_ | refine lls rfl ?_ | refine ad ?_ | refine lss ?_ | refine kp ?_ | refine ct ?_ | refine cf ?_ | (refine cd (fun hc => ?_) (fun hc => ?_) <;> try (exfalso; omega)) | (refine cn (fun hc => ?_) (fun hc => ?_) <;> try (exfalso; omega)) | refine bl ?_ | refine ib ?_ | refine xt ?_ | refine la rfl ?_ | refine ixa rfl rfl ?_ | refine fe ?_ | refine lde rfl ?_ | refine lae rfl ?_ | refine fa ?_ | refine cc ?_ | refine af_ ?_ | refine aw ?_ | refine cb (fun hc => ?_) (fun hc => ?_) | fail)
  refine lp (α := Nat × Int × Int) (fun y => [(0, .pointer (some ⟨r, 0, none⟩)), (3, .int .i64 y.2.2), (4, .int .i64 y.2.1)]) (fun y => [blk r (rcell lv most fused gone), sl 89 rfE lv L]) (fun y => y.2.1 = (y.1 : Int) ∧ y.1 ≤ L.length) (fun y => L.length - y.1) (0, 0, 0) ?_ ⟨rfl, Nat.zero_le _⟩
  rintro ⟨i, n, m⟩ ⟨hn, hi⟩ again
  dsimp only at hn hi again ⊢
  subst hn
  repeat' (first | refine mv ?_ | refine asn ?_ | refine jn ?_ | refine nl ?_ | refine ld rfl ?_ | refine nc ?_ | refine f0 ?_ | refine sq ?_ | refine rg ?_ | refine lnb ?_ | refine lls rfl ?_ | refine ad ?_ | refine lss ?_ | refine kp ?_ | refine ct ?_ | refine cf ?_ | (refine cd (fun hc => ?_) (fun hc => ?_) <;> try (exfalso; omega)) | (refine cn (fun hc => ?_) (fun hc => ?_) <;> try (exfalso; omega)) | refine bl ?_ | refine ib ?_ | refine xt ?_ | refine la rfl ?_ | refine ixa rfl rfl ?_ | refine fe ?_ | refine lde rfl ?_ | refine lae rfl ?_ | refine fa ?_ | refine cc ?_ | refine af_ ?_ | refine aw ?_ | refine cb (fun hc => ?_) (fun hc => ?_) | fail)
  · exact ag (again (i + 1, (i : Int) + 1, _) ⟨by dsimp only; omega, by dsimp only; omega⟩ (by dsimp only; omega))
  · refine rt ?_
    exact ⟨_, ⟨⟨_, rfl⟩, rfl⟩, _, by repeat constructor⟩
theorem rturn_tr (r : Nat) (lv : Value) (most fused : Int) (gone : Bool) : Tr Tryz.prog 106 [.pointer (some ⟨r, 0, none⟩)] [blk r (rcell lv most fused gone)]
    fun v Γ => ∃ e fused' gone', v = .int .i64 e ∧ Γ = [blk r (rcell lv most fused' gone')] := by
  refine Tr_of_J Tryz.func106 follows rfl Tryz.ntmps106 (by simp) fun B F => ?_
  repeat' (first | refine mv ?_ | refine asn ?_ | refine jn ?_ | refine nl ?_ | refine ld rfl ?_ | refine nc ?_ | refine f0 ?_ | refine sq ?_ | refine rg ?_ | refine sb ?_ | refine eql ?_ | refine gtr ?_ | refine kp ?_ | refine ct ?_ | refine cf ?_ | (refine cd (fun hc => ?_) (fun hc => ?_) <;> try (exfalso; omega)) | (refine cn (fun hc => ?_) (fun hc => ?_) <;> try (exfalso; omega)) | refine bl ?_ | refine ib ?_ | refine xt ?_ | refine sr rfl ?_ | refine la rfl ?_ | refine fe ?_ | refine lde rfl ?_ | refine lae rfl ?_ | refine fa ?_ | refine af_ ?_ | refine sw ?_ | refine cb (fun hc => ?_) (fun hc => ?_) | fail)
  all_goals refine rt ?_
  all_goals exact ⟨_, ⟨_, _, _, rfl, rfl⟩, _, by repeat constructor⟩
end Go.Proofs.YtaeefjcbmkiiaaaGreatDoor
/- The document's answer to disk: append, sync; to wal: opened on an empty disk, as far as it does not panic. -/
namespace Go.Proofs.YtaeefjcbmkiiaaaGreatDoor
open Go Sl
attribute [local irreducible] J JR JS RO CR Arr Sat Tr sat blk
set_option linter.unusedVariables false
set_option maxHeartbeats 1000000
set_option maxRecDepth 4000
theorem rthere_tr (r : Nat) (lv : Value) (L : List RF) (most fused : Int) (gone : Bool) (s : List UInt8) (hL : L.length ≤ 1000000) : Tr Tryz.prog 103 [.pointer (some ⟨r, 0, none⟩), vs s] [blk r (rcell lv most fused gone), sl 89 rfE lv L]
    fun v Γ => (∃ (i : Nat) (e : Int), v = .tuple #[.int .i64 i, .int .i64 e] ∧ (e = 0 → i < L.length)) ∧ Γ = [blk r (rcell lv most fused gone), sl 89 rfE lv L] := by
  refine Tr_of_J Tryz.func103 follows rfl Tryz.ntmps103 (by simp) fun B F => ?_
  repeat' (first | (refine cle rfl (rfind_tr r lv L most fused gone s hL) ?_; rintro v Γ' ⟨⟨i, b, rfl, h1, h2⟩, rfl⟩; refine n2 ?_) | refine mv ?_ | refine asn ?_ | refine jn ?_ | refine nl ?_ | refine ld rfl ?_ | refine nc ?_ | refine f0 ?_ | refine xt2 ?_ | refine sq ?_ | refine rg ?_ | refine nt ?_ | refine kp ?_ | refine ct ?_ | refine cf ?_ | (refine cd (fun hc => ?_) (fun hc => ?_) <;> try (exfalso; omega)) | (refine cn (fun hc => ?_) (fun hc => ?_) <;> try (exfalso; omega)) | refine bl ?_ | refine ib ?_ | refine xt ?_ | refine la rfl ?_ | refine fe ?_ | refine lde rfl ?_ | refine lae rfl ?_ | refine fa ?_ | refine af_ ?_ | refine cb (fun hc => ?_) (fun hc => ?_) | fail)
  · refine rt ?_
    exact ⟨_, ⟨⟨0, _, rfl, fun h => by cases h⟩, rfl⟩, _, by repeat constructor⟩
  · refine rt ?_
    exact ⟨_, ⟨⟨0, _, rfl, fun h => by cases h⟩, rfl⟩, _, by repeat constructor⟩
  · refine rt ?_
    exact ⟨_, ⟨⟨i, _, rfl, fun _ => h2 (by cases b with | true => rfl | false => simp_all)⟩, rfl⟩, _, by repeat constructor⟩
theorem rwith_tr (r : Nat) (lv : Value) (L : List RF) (most fused : Int) (gone : Bool) (f : RF) (hL : L.length ≤ 1000) : Tr Tryz.prog 155 [.pointer (some ⟨r, 0, none⟩), rfV f] [blk r (rcell lv most fused gone), sl 89 rfE lv L]
    fun v Γ => ∃ L', (L'.length = L.length + 1 ∧ ∀ x ∈ L', x = f ∨ x ∈ L) ∧ Γ = [sl 89 rfE v L', blk r (rcell lv most fused gone), sl 89 rfE lv L] := by
  refine Tr_of_J Tryz.func155 follows rfl Tryz.ntmps155 (by simp) fun B F => ?_
  repeat' (first | (refine cle rfl (rfind_tr r lv L most fused gone f.name (by omega)) ?_; rintro v Γ' ⟨⟨i, b, rfl, h1, h2⟩, rfl⟩; refine n2 ?_) | refine bsl (e := rfE) (X := []) (fun v2 => ?_) .nil | refine bsl (e := rfE) (X := [f]) (fun v4 => ?_) (.cona rfl rfl .nil) | refine apv rfl rfl (a := 0) (b := i) (by omega) (by omega) (fun v3 => ?_) (by simp; omega) (by simp; omega) | refine apv rfl rfl (a := i) (b := L.length) (by omega) (by omega) (fun v5 => ?_) (by simp; omega) (by simp; omega) | refine apo rfl rfl (fun v6 => ?_) (by simp; omega) (by simp; omega) | refine mv ?_ | refine asn ?_ | refine jn ?_ | refine nl ?_ | refine ld rfl ?_ | refine nc ?_ | refine f0 ?_ | refine xt2 ?_ | refine sq ?_ | refine rg ?_ | refine kp ?_ | refine ct ?_ | refine cf ?_ | (refine cd (fun hc => ?_) (fun hc => ?_) <;> try (exfalso; omega)) | (refine cn (fun hc => ?_) (fun hc => ?_) <;> try (exfalso; omega)) | refine bl ?_ | refine ib ?_ | refine xt ?_ | refine bx (fun b_ => ?_) | refine la rfl ?_ | refine fe ?_ | refine lde rfl ?_ | refine lae rfl ?_ | refine fa ?_ | refine slb ?_ | refine slbl ?_ | refine slbh ?_ | refine af_ ?_ | refine sli rfl ?_ | refine slil rfl ?_ | refine slih rfl ?_ | refine cb (fun hc => ?_) (fun hc => ?_) | refine J_draw3 (id := 2) [(1, true, []), (2, true, []), (3, true, []), (4, true, []), (5, true, []), (6, true, []), (8, true, []), (11, true, []), (12, true, []), (13, true, []), (14, true, []), (15, true, []), (16, true, []), (0, false, [1, 2, 3, 4, 5, 6, 8, 11, 12, 13, 14, 15, 16]), (7, false, [8, 11, 12, 13, 14, 15, 16]), (9, false, [1, 2, 3, 4, 5, 6, 11, 12, 13, 14, 15, 16]), (10, false, [11, 12, 13, 14, 15, 16]), (17, false, []), (18, true, [])] [(1, true, []), (2, true, []), (3, true, []), (4, true, []), (5, true, []), (6, true, []), (8, true, []), (11, true, []), (12, true, []), (13, true, []), (14, true, []), (15, true, []), (16, true, []), (0, false, [1, 2, 3, 4, 5, 6, 8, 11, 12, 13, 14, 15, 16]), (9, false, [1, 2, 3, 4, 5, 6, 11, 12, 13, 14, 15, 16]), (7, false, [8, 11, 12, 13, 14, 15, 16]), (10, false, [11, 12, 13, 14, 15, 16]), (17, false, []), (18, true, [])] [(1, true, []), (2, true, []), (3, true, []), (4, true, []), (5, true, []), (6, true, []), (8, true, []), (11, true, []), (12, true, []), (13, true, []), (14, true, []), (15, true, []), (16, true, []), (9, false, [1, 2, 3, 4, 5, 6, 11, 12, 13, 14, 15, 16]), (0, false, [1, 2, 3, 4, 5, 6, 8, 11, 12, 13, 14, 15, 16]), (7, false, [8, 11, 12, 13, 14, 15, 16]), (10, false, [11, 12, 13, 14, 15, 16]), (17, false, []), (18, true, [])] (by kernel_rfl) ?_ ?_ ?_ | refine JS_cons rfl rfl (RO_move rfl) ?_ | refine JS_cons rfl rfl (RO_nilCheck rfl) ?_ | refine JS_cons rfl rfl (RO_fieldAddr0 rfl) ?_ | refine JS_cons rfl rfl (RO_load rfl (by rfl)) ?_ | refine JS_off rfl ?_ | refine JS_cons rfl rfl (RO_extract rfl rfl) ?_ | refine JS_cons rfl rfl (RO_fieldAddr rfl) ?_ | refine JS_cons rfl rfl (RO_fe rfl) ?_ | refine JS_cons rfl rfl (RO_lde rfl (by omega) rfl) ?_ | refine JS_cons rfl rfl (RO_slih rfl rfl (by omega)) ?_ | refine JS_cons rfl rfl (RO_slil rfl rfl (by omega)) ?_ | refine JS_offu rfl ?_ | refine JS_cons rfl rfl (RO_lae rfl (by omega) (by repeat constructor)) ?_ | refine JS_cons rfl rfl (RO_loadAgg rfl (by repeat constructor)) ?_ | fail)
  all_goals
    refine rt ?_
    refine ⟨_, ⟨_, ⟨?_, ?_⟩, rfl⟩, _, by repeat constructor⟩
    · simp; omega
    · intro x hx
      simp only [List.nil_append, List.drop_zero, List.take_length, List.mem_append, List.mem_singleton] at hx
      rcases hx with (hx | hx) | hx
      · exact .inr (List.mem_of_mem_take hx)
      · exact .inl hx
      · exact .inr (List.mem_of_mem_drop hx)
theorem rgetD {L : List RF} {i : Nat} (h : i < L.length) : L.getD i rfE.dflt ∈ L := by
  rw [List.getD_eq_getElem?_getD, List.getElem?_eq_getElem h]; exact List.getElem_mem h
theorem rb0 {L : List RF} (hb : ∀ f ∈ L, f.bytes.length ≤ 1000000) {i : Nat} (h : i < L.length) : (L.getD i rfE.dflt).bytes.length ≤ 1000000 := hb _ (rgetD h)
theorem rb1 {L L' : List RF} {s : List UInt8} (g : ∀ x ∈ L', x = ⟨s, [], 0⟩ ∨ x ∈ L) (hb : ∀ f ∈ L, f.bytes.length ≤ 1000000) {i : Nat} (h : i < L'.length) : (L'.getD i rfE.dflt).bytes.length ≤ 1000000 := by
  rcases g _ (rgetD h) with h | h
  · rw [h]; exact Nat.zero_le _
  · exact hb _ h
theorem rappend_tr (r : Nat) (lv : Value) (L : List RF) (most fused : Int) (gone : Bool) (s data : List UInt8) (hL : L.length ≤ 100) (hb : ∀ f ∈ L, f.bytes.length ≤ 1000000) (hs : s.length ≤ 1000000) (hd : data.length ≤ 1000000) : Tr Tryz.prog 102 [.pointer (some ⟨r, 0, none⟩), vs s, vs data] [blk r (rcell lv most fused gone), sl 89 rfE lv L]
    fun v Γ => ∃ e lv' L' fused' gone', v = .int .i64 e ∧ L'.length ≤ L.length + 1 ∧ Γ = [blk r (rcell lv' most fused' gone'), sl 89 rfE lv' L'] := by
  refine Tr_of_J Tryz.func102 follows rfl Tryz.ntmps102 (by simp) fun B F => ?_
  repeat' (first | (refine cle rfl (rname_tr s hs) ?_; rintro v Γ' ⟨⟨b, rfl⟩, rfl⟩; refine n0 ?_) | (refine cle rfl (rfind_tr r lv L most fused gone s (by omega)) ?_; rintro v Γ' ⟨⟨i, is, rfl, h1, h2⟩, rfl⟩; refine n2 ?_) | (refine cle rfl (rsize_tr r lv L most fused gone (by omega)) ?_; rintro v Γ' ⟨⟨z, rfl⟩, rfl⟩; refine n2 ?_) | (refine cle rfl (rturn_tr r lv most fused gone) ?_; rintro v Γ' ⟨e, fused', gone', rfl, rfl⟩; refine n1 ?_) | refine mv ?_ | refine asn ?_ | refine jn ?_ | refine nl ?_ | refine ld rfl ?_ | refine nc ?_ | refine f0 ?_ | refine xt2 ?_ | refine sq ?_ | refine rg ?_ | refine lnb ?_ | refine lls rfl ?_ | refine ad ?_ | refine sb ?_ | refine neq ?_ | refine gtr ?_ | refine geq ?_ | refine nt ?_ | refine p1 ?_ | refine p0 ?_ | refine sk2 ?_ | refine kp ?_ | refine ct ?_ | refine cf ?_ | (refine cd (fun hc => ?_) (fun hc => ?_) <;> try (exfalso; omega)) | (refine cn (fun hc => ?_) (fun hc => ?_) <;> try (exfalso; omega)) | refine bl ?_ | refine ib ?_ | refine xt ?_ | refine sr rfl ?_ | refine la rfl ?_ | refine ixa rfl rfl ?_ | refine fe ?_ | refine lde rfl ?_ | refine lae rfl ?_ | refine fa ?_ | refine bld ?_ | refine sne ?_ | refine cc ?_ | refine af_ ?_ | (refine gd (fun hc => ?_) (fun hc => ?_) <;> try (exfalso; omega)) | (refine gn (fun hc => ?_) (fun hc => ?_) <;> try (exfalso; omega)) | refine aw ?_ | refine sw ?_ | refine ane ?_ | refine cb (fun hc => ?_) (fun hc => ?_) | refine gs (fun hc => ?_) (fun hc => ?_) | refine J_draw (id := 9) [(0, true, []), (1, true, []), (2, true, []), (3, true, []), (4, true, []), (5, true, []), (6, true, []), (7, false, [0, 1, 2, 3, 4, 5]), (8, true, []), (9, true, [])] (by kernel_rfl) ?_ | refine J_draw (id := 16) [(0, true, []), (1, true, []), (2, true, []), (3, true, []), (4, true, []), (5, true, []), (6, true, []), (7, true, []), (8, true, []), (9, true, []), (10, true, []), (11, true, []), (12, true, []), (13, true, []), (14, true, []), (15, true, []), (16, true, []), (17, false, [])] (by kernel_rfl) ?_ | refine JS_cons rfl rfl (RO_move rfl) ?_ | refine JS_cons rfl rfl (RO_nilCheck rfl) ?_ | refine JS_cons rfl rfl (RO_fieldAddr0 rfl) ?_ | refine JS_cons rfl rfl (RO_load rfl (by rfl)) ?_ | refine JS_off rfl ?_ | refine JS_cons rfl rfl (RO_extract rfl rfl) ?_ | refine JS_cons rfl rfl (RO_not rfl) ?_ | refine JS_cons rfl rfl (RO_fieldAddr rfl) ?_ | refine JS_cons rfl rfl (RO_lnb rfl) ?_ | refine JS_cons rfl rfl (RO_lls rfl) ?_ | refine JS_cons rfl rfl (RO_add_in rfl rfl (by omega)) ?_ | refine JS_cons rfl rfl (RO_sub_in rfl rfl (by omega)) ?_ | refine JS_cons rfl rfl (RO_ixa rfl rfl (by omega)) ?_ | refine JS_cons rfl rfl (RO_fe rfl) ?_ | refine JS_cons rfl rfl (RO_lde rfl (by omega) rfl) ?_ | refine JS_offu rfl ?_ | refine JS_cons rfl rfl (RO_cc rfl rfl (by omega)) ?_ | refine JS_cons rfl rfl (RO_bld rfl (by (repeat (first | exact FillS.nil | (apply FillS.cons; rfl; rfl; constructor; rfl; (focus repeat constructor)))))) ?_ | refine JS_cons rfl rfl (RO_lae rfl (by omega) (by repeat constructor)) ?_ | refine JS_cons rfl rfl (RO_loadAgg rfl (by repeat constructor)) ?_ | fail)
  all_goals first
    | (refine rt ?_
       refine ⟨_, ⟨_, _, _, _, _, rfl, ?_, rfl⟩, _, by repeat constructor⟩
       omega)
    | skip
  all_goals first
    | (have his : (!is) = false := (by assumption)
       have hi3 := h2 (by simpa using his)
       clear h2)
    | skip
  all_goals repeat' (first | (refine cle rfl (rwith_tr r lv L most fused' gone' ⟨s, [], 0⟩ (by omega)) ?_; rintro lv2 Γ' ⟨L', ⟨g1, g2⟩, rfl⟩; refine n3 ?_) | refine sro rfl rfl ?_ | refine cc ?_ rfl rfl (Nat.le_trans (Nat.add_le_add (rb1 g2 hb (i := i) (by omega)) hd) (by decide)) | refine cc ?_ rfl rfl (Nat.le_trans (Nat.add_le_add (rb0 hb (i := i) (by omega)) hd) (by decide)) | refine sre rfl ?_ | refine mv ?_ | refine asn ?_ | refine jn ?_ | refine nl ?_ | refine ld rfl ?_ | refine nc ?_ | refine f0 ?_ | refine xt2 ?_ | refine sq ?_ | refine rg ?_ | refine lnb ?_ | refine lls rfl ?_ | refine ad ?_ | refine sb ?_ | refine neq ?_ | refine gtr ?_ | refine geq ?_ | refine nt ?_ | refine p1 ?_ | refine p0 ?_ | refine sk2 ?_ | refine kp ?_ | refine ct ?_ | refine cf ?_ | (refine cd (fun hc => ?_) (fun hc => ?_) <;> try (exfalso; omega)) | (refine cn (fun hc => ?_) (fun hc => ?_) <;> try (exfalso; omega)) | refine bl ?_ | refine ib ?_ | refine xt ?_ | refine sr rfl ?_ | refine la rfl ?_ | refine ixa rfl rfl ?_ | refine fe ?_ | refine lde rfl ?_ | refine lae rfl ?_ | refine fa ?_ | refine bld ?_ | refine sne ?_ | refine cc ?_ | refine af_ ?_ | (refine gd (fun hc => ?_) (fun hc => ?_) <;> try (exfalso; omega)) | (refine gn (fun hc => ?_) (fun hc => ?_) <;> try (exfalso; omega)) | refine aw ?_ | refine sw ?_ | refine ane ?_ | refine cb (fun hc => ?_) (fun hc => ?_) | refine gs (fun hc => ?_) (fun hc => ?_) | refine J_draw (id := 9) [(0, true, []), (1, true, []), (2, true, []), (3, true, []), (4, true, []), (5, true, []), (6, true, []), (7, false, [0, 1, 2, 3, 4, 5]), (8, true, []), (9, true, [])] (by kernel_rfl) ?_ | refine J_draw (id := 16) [(0, true, []), (1, true, []), (2, true, []), (3, true, []), (4, true, []), (5, true, []), (6, true, []), (7, true, []), (8, true, []), (9, true, []), (10, true, []), (11, true, []), (12, true, []), (13, true, []), (14, true, []), (15, true, []), (16, true, []), (17, false, [])] (by kernel_rfl) ?_ | refine JS_cons rfl rfl (RO_move rfl) ?_ | refine JS_cons rfl rfl (RO_nilCheck rfl) ?_ | refine JS_cons rfl rfl (RO_fieldAddr0 rfl) ?_ | refine JS_cons rfl rfl (RO_load rfl (by rfl)) ?_ | refine JS_off rfl ?_ | refine JS_cons rfl rfl (RO_extract rfl rfl) ?_ | refine JS_cons rfl rfl (RO_not rfl) ?_ | refine JS_cons rfl rfl (RO_fieldAddr rfl) ?_ | refine JS_cons rfl rfl (RO_lnb rfl) ?_ | refine JS_cons rfl rfl (RO_lls rfl) ?_ | refine JS_cons rfl rfl (RO_add_in rfl rfl (by omega)) ?_ | refine JS_cons rfl rfl (RO_sub_in rfl rfl (by omega)) ?_ | refine JS_cons rfl rfl (RO_ixa rfl rfl (by omega)) ?_ | refine JS_cons rfl rfl (RO_fe rfl) ?_ | refine JS_cons rfl rfl (RO_lde rfl (by omega) rfl) ?_ | refine JS_offu rfl ?_ | refine JS_cons rfl rfl (RO_cc rfl rfl (by omega)) ?_ | refine JS_cons rfl rfl (RO_bld rfl (by (repeat (first | exact FillS.nil | (apply FillS.cons; rfl; rfl; constructor; rfl; (focus repeat constructor)))))) ?_ | refine JS_cons rfl rfl (RO_lae rfl (by omega) (by repeat constructor)) ?_ | refine JS_cons rfl rfl (RO_loadAgg rfl (by repeat constructor)) ?_ | fail)
  all_goals first
    | (refine rt ?_
       refine ⟨_, ⟨_, _, _, _, _, rfl, ?_, rfl⟩, _, by repeat constructor⟩
       simp only [List.length_set]
       omega)
    | skip
end Go.Proofs.YtaeefjcbmkiiaaaGreatDoor
/- The document's answer to wal: opened on an empty disk, as far as it does not panic. -/
namespace Go.Proofs.YtaeefjcbmkiiaaaGreatDoor
open Go Sl
attribute [local irreducible] J JR JS RO CR Arr Sat Tr sat blk
set_option linter.unusedVariables false
set_option maxHeartbeats 1000000
set_option maxRecDepth 4000
theorem rsync_tr (r : Nat) (lv : Value) (L : List RF) (most fused : Int) (gone : Bool) (s : List UInt8) (hL : L.length ≤ 1000000) : Tr Tryz.prog 69 [.pointer (some ⟨r, 0, none⟩), vs s] [blk r (rcell lv most fused gone), sl 89 rfE lv L]
    fun v Γ => ∃ e, v = .int .i64 e ∧ Γ = [] := by
  refine Tr_of_J Tryz.func69 follows rfl Tryz.ntmps69 (by simp) fun B F => ?_
  repeat' (first | (refine cle rfl (rthere_tr r lv L most fused gone s hL) ?_; rintro v Γ' ⟨⟨i, e, rfl, h1⟩, rfl⟩; refine n2 ?_) | refine mv ?_ | refine asn ?_ | refine jn ?_ | refine nl ?_ | refine ld rfl ?_ | refine nc ?_ | refine f0 ?_ | refine xt2 ?_ | refine sq ?_ | refine rg ?_ | refine lnb ?_ | refine lls rfl ?_ | refine neq ?_ | refine kp ?_ | refine ct ?_ | refine cf ?_ | (refine cd (fun hc => ?_) (fun hc => ?_) <;> try (exfalso; omega)) | (refine cn (fun hc => ?_) (fun hc => ?_) <;> try (exfalso; omega)) | refine bl ?_ | refine ib ?_ | refine xt ?_ | refine sr rfl ?_ | refine la rfl ?_ | refine ixa rfl rfl ?_ | refine fe ?_ | refine lde rfl ?_ | refine lae rfl ?_ | refine fa ?_ | refine sne ?_ | refine af_ ?_ | refine ane ?_ | refine cb (fun hc => ?_) (fun hc => ?_) | refine J_draw (id := 7) [(0, true, []), (1, true, []), (2, true, []), (3, true, []), (4, true, []), (5, true, []), (6, true, []), (7, true, []), (8, true, []), (9, true, []), (10, true, []), (11, true, []), (12, true, []), (13, true, []), (14, true, []), (15, true, []), (16, false, [])] (by kernel_rfl) ?_ | fail)
  · refine rt ?_
    exact ⟨_, ⟨_, rfl, rfl⟩, _, by repeat constructor⟩
  have hi : i < L.length := h1 (by assumption)
  repeat' (first | (refine cle rfl (rturn_tr r lv most fused gone) ?_; rintro v Γ' ⟨e2, fused', gone', rfl, rfl⟩; refine n1 ?_) | refine sre rfl ?_ | refine mv ?_ | refine asn ?_ | refine jn ?_ | refine nl ?_ | refine ld rfl ?_ | refine nc ?_ | refine f0 ?_ | refine xt2 ?_ | refine sq ?_ | refine rg ?_ | refine lnb ?_ | refine lls rfl ?_ | refine neq ?_ | refine kp ?_ | refine ct ?_ | refine cf ?_ | (refine cd (fun hc => ?_) (fun hc => ?_) <;> try (exfalso; omega)) | (refine cn (fun hc => ?_) (fun hc => ?_) <;> try (exfalso; omega)) | refine bl ?_ | refine ib ?_ | refine xt ?_ | refine sr rfl ?_ | refine la rfl ?_ | refine ixa rfl rfl ?_ | refine fe ?_ | refine lde rfl ?_ | refine lae rfl ?_ | refine fa ?_ | refine sne ?_ | refine af_ ?_ | refine ane ?_ | refine cb (fun hc => ?_) (fun hc => ?_) | refine J_draw (id := 7) [(0, true, []), (1, true, []), (2, true, []), (3, true, []), (4, true, []), (5, true, []), (6, true, []), (7, true, []), (8, true, []), (9, true, []), (10, true, []), (11, true, []), (12, true, []), (13, true, []), (14, true, []), (15, true, []), (16, false, [])] (by kernel_rfl) ?_ | fail)
  all_goals
    refine rt ?_
    exact ⟨_, ⟨_, rfl, rfl⟩, _, by repeat constructor⟩
abbrev gcell (r : Nat) (ev : Value) : Obj := .cells ⟨[.pointer (some ⟨r, 0, none⟩), .int .i64 0, .int .i64 0, ev]⟩ 54 (0, 0)
theorem rlay_tr (g r : Nat) (ev lv : Value) (L : List RF) (most fused : Int) (gone : Bool) (s data : List UInt8) (hL : L.length ≤ 100) (hb : ∀ f ∈ L, f.bytes.length ≤ 1000000) (hs : s.length ≤ 1000000) (hd : data.length ≤ 1000000) : Tr Tryz.prog 62 [.pointer (some ⟨g, 0, none⟩), vs s, vs data] [blk g (gcell r ev), blk r (rcell lv most fused gone), sl 89 rfE lv L]
    fun v Γ => ∃ e, v = .int .i64 e ∧ Γ = [] := by
  refine Tr_of_J Tryz.func62 follows rfl Tryz.ntmps62 (by simp) fun B F => ?_
  repeat' (first | (refine cle rfl (rappend_tr r lv L most fused gone s data hL hb hs hd) ?_; rintro v Γ' ⟨e, lv', L', fused', gone', rfl, hL', rfl⟩; refine n2 ?_) | (refine cle rfl (rsync_tr r lv' L' most fused' gone' s (by omega)) ?_; rintro v Γ' ⟨e2, rfl, rfl⟩; refine n0 ?_) | refine mv ?_ | refine asn ?_ | refine jn ?_ | refine nl ?_ | refine ld rfl ?_ | refine nc ?_ | refine f0 ?_ | refine sq ?_ | refine rg ?_ | refine neq ?_ | refine kp ?_ | refine ct ?_ | refine cf ?_ | (refine cd (fun hc => ?_) (fun hc => ?_) <;> try (exfalso; omega)) | (refine cn (fun hc => ?_) (fun hc => ?_) <;> try (exfalso; omega)) | refine bl ?_ | refine ib ?_ | refine xt ?_ | refine la rfl ?_ | refine fe ?_ | refine lde rfl ?_ | refine lae rfl ?_ | refine fa ?_ | refine sne ?_ | refine af_ ?_ | refine ane ?_ | refine cb (fun hc => ?_) (fun hc => ?_) | fail)
  all_goals
    refine rt ?_
    exact ⟨_, ⟨_, rfl, rfl⟩, _, by repeat constructor⟩
theorem rnum0_tr (g r : Nat) (ev : Value) (most fused : Int) (gone : Bool) : Tr Tryz.prog 15 [.pointer (some ⟨g, 0, none⟩)] [blk g (gcell r ev), blk r (rcell (.slice none 0 0) most fused gone)]
    fun v Γ => v = .slice none 0 0 ∧ Γ = [blk g (gcell r ev), blk r (rcell (.slice none 0 0) most fused gone)] := by
  refine Tr_of_J Tryz.func15 follows rfl Tryz.ntmps15 (by simp) fun B F => ?_
  repeat' (first | refine mv ?_ | refine asn ?_ | refine jn ?_ | refine nl ?_ | refine ld rfl ?_ | refine nc ?_ | refine f0 ?_ | refine sq ?_ | refine rg ?_ | refine lnb ?_ | refine lls rfl ?_ | refine ad ?_ | refine lss ?_ | refine eql ?_ | refine p1 ?_ | refine p0 ?_ | refine sk2 ?_ | refine kp ?_ | refine ct ?_ | refine cf ?_ | (refine cd (fun hc => ?_) (fun hc => ?_) <;> try (exfalso; omega)) | (refine cn (fun hc => ?_) (fun hc => ?_) <;> try (exfalso; omega)) | refine bl ?_ | refine ib ?_ | refine xt ?_ | refine la rfl ?_ | refine ixa rfl rfl ?_ | refine fe ?_ | refine lde rfl ?_ | refine lae rfl ?_ | refine fa ?_ | refine cc ?_ | refine slb ?_ | refine slbl ?_ | refine slbh ?_ | refine af_ ?_ | (refine gd (fun hc => ?_) (fun hc => ?_) <;> try (exfalso; omega)) | (refine gn (fun hc => ?_) (fun hc => ?_) <;> try (exfalso; omega)) | refine aw ?_ | refine sli rfl ?_ | refine slil rfl ?_ | refine slih rfl ?_ | refine cb (fun hc => ?_) (fun hc => ?_) | refine gs (fun hc => ?_) (fun hc => ?_) | refine J_draw3 (id := 10) [(1, true, []), (2, true, []), (3, true, []), (5, true, []), (8, true, []), (9, true, []), (10, true, []), (0, false, [1, 2, 3, 5, 8, 9, 10]), (4, false, [5, 8, 9, 10]), (6, false, [1, 2, 3, 8, 9, 10]), (7, false, [8, 9, 10]), (11, false, []), (12, false, [])] [(1, true, []), (2, true, []), (3, true, []), (5, true, []), (8, true, []), (9, true, []), (10, true, []), (0, false, [1, 2, 3, 5, 8, 9, 10]), (6, false, [1, 2, 3, 8, 9, 10]), (4, false, [5, 8, 9, 10]), (7, false, [8, 9, 10]), (11, false, []), (12, false, [])] [(1, true, []), (2, true, []), (3, true, []), (5, true, []), (8, true, []), (9, true, []), (10, true, []), (6, false, [1, 2, 3, 8, 9, 10]), (0, false, [1, 2, 3, 5, 8, 9, 10]), (4, false, [5, 8, 9, 10]), (7, false, [8, 9, 10]), (11, false, []), (12, false, [])] (by kernel_rfl) ?_ ?_ ?_ | refine JS_cons rfl rfl (RO_move rfl) ?_ | refine JS_cons rfl rfl (RO_nilCheck rfl) ?_ | refine JS_cons rfl rfl (RO_fieldAddr0 rfl) ?_ | refine JS_cons rfl rfl (RO_load rfl (by rfl)) ?_ | refine JS_off rfl ?_ | refine JS_cons rfl rfl (RO_fieldAddr rfl) ?_ | refine JS_cons rfl rfl (RO_lnb rfl) ?_ | refine JS_cons rfl rfl (RO_lls rfl) ?_ | refine JS_cons rfl rfl (RO_add_in rfl rfl (by omega)) ?_ | refine JS_cons rfl rfl (RO_ixa rfl rfl (by omega)) ?_ | refine JS_cons rfl rfl (RO_fe rfl) ?_ | refine JS_cons rfl rfl (RO_lde rfl (by omega) rfl) ?_ | refine JS_cons rfl rfl (RO_slih rfl rfl (by omega)) ?_ | refine JS_cons rfl rfl (RO_slil rfl rfl (by omega)) ?_ | refine JS_offu rfl ?_ | refine JS_cons rfl rfl (RO_cc rfl rfl (by omega)) ?_ | refine JS_cons rfl rfl (RO_lae rfl (by omega) (by repeat constructor)) ?_ | refine JS_cons rfl rfl (RO_loadAgg rfl (by repeat constructor)) ?_ | fail)
  refine lp (α := Unit) (fun y => [(0, .pointer (some ⟨g, 0, none⟩)), (3, .slice none 0 0), (4, .int .i64 0)]) (fun y => [blk g (gcell r ev), blk r (rcell (.slice none 0 0) most fused gone)]) (fun y => True) (fun y => 0) () ?_ trivial
  rintro _ _ again
  clear again
  repeat' (first | refine ll ?_ | refine mv ?_ | refine asn ?_ | refine jn ?_ | refine nl ?_ | refine ld rfl ?_ | refine nc ?_ | refine f0 ?_ | refine sq ?_ | refine rg ?_ | refine lnb ?_ | refine lls rfl ?_ | refine ad ?_ | refine lss ?_ | refine eql ?_ | refine p1 ?_ | refine p0 ?_ | refine sk2 ?_ | refine kp ?_ | refine ct ?_ | refine cf ?_ | (refine cd (fun hc => ?_) (fun hc => ?_) <;> try (exfalso; omega)) | (refine cn (fun hc => ?_) (fun hc => ?_) <;> try (exfalso; omega)) | refine bl ?_ | refine ib ?_ | refine xt ?_ | refine la rfl ?_ | refine ixa rfl rfl ?_ | refine fe ?_ | refine lde rfl ?_ | refine lae rfl ?_ | refine fa ?_ | refine cc ?_ | refine slb ?_ | refine slbl ?_ | refine slbh ?_ | refine af_ ?_ | (refine gd (fun hc => ?_) (fun hc => ?_) <;> try (exfalso; omega)) | (refine gn (fun hc => ?_) (fun hc => ?_) <;> try (exfalso; omega)) | refine aw ?_ | refine sli rfl ?_ | refine slil rfl ?_ | refine slih rfl ?_ | refine cb (fun hc => ?_) (fun hc => ?_) | refine gs (fun hc => ?_) (fun hc => ?_) | refine J_draw3 (id := 10) [(1, true, []), (2, true, []), (3, true, []), (5, true, []), (8, true, []), (9, true, []), (10, true, []), (0, false, [1, 2, 3, 5, 8, 9, 10]), (4, false, [5, 8, 9, 10]), (6, false, [1, 2, 3, 8, 9, 10]), (7, false, [8, 9, 10]), (11, false, []), (12, false, [])] [(1, true, []), (2, true, []), (3, true, []), (5, true, []), (8, true, []), (9, true, []), (10, true, []), (0, false, [1, 2, 3, 5, 8, 9, 10]), (6, false, [1, 2, 3, 8, 9, 10]), (4, false, [5, 8, 9, 10]), (7, false, [8, 9, 10]), (11, false, []), (12, false, [])] [(1, true, []), (2, true, []), (3, true, []), (5, true, []), (8, true, []), (9, true, []), (10, true, []), (6, false, [1, 2, 3, 8, 9, 10]), (0, false, [1, 2, 3, 5, 8, 9, 10]), (4, false, [5, 8, 9, 10]), (7, false, [8, 9, 10]), (11, false, []), (12, false, [])] (by kernel_rfl) ?_ ?_ ?_ | refine JS_cons rfl rfl (RO_move rfl) ?_ | refine JS_cons rfl rfl (RO_nilCheck rfl) ?_ | refine JS_cons rfl rfl (RO_fieldAddr0 rfl) ?_ | refine JS_cons rfl rfl (RO_load rfl (by rfl)) ?_ | refine JS_off rfl ?_ | refine JS_cons rfl rfl (RO_fieldAddr rfl) ?_ | refine JS_cons rfl rfl (RO_lnb rfl) ?_ | refine JS_cons rfl rfl (RO_lls rfl) ?_ | refine JS_cons rfl rfl (RO_add_in rfl rfl (by omega)) ?_ | refine JS_cons rfl rfl (RO_ixa rfl rfl (by omega)) ?_ | refine JS_cons rfl rfl (RO_fe rfl) ?_ | refine JS_cons rfl rfl (RO_lde rfl (by omega) rfl) ?_ | refine JS_cons rfl rfl (RO_slih rfl rfl (by omega)) ?_ | refine JS_cons rfl rfl (RO_slil rfl rfl (by omega)) ?_ | refine JS_offu rfl ?_ | refine JS_cons rfl rfl (RO_cc rfl rfl (by omega)) ?_ | refine JS_cons rfl rfl (RO_lae rfl (by omega) (by repeat constructor)) ?_ | refine JS_cons rfl rfl (RO_loadAgg rfl (by repeat constructor)) ?_ | fail)
  refine rt ?_
  exact ⟨_, ⟨rfl, rfl⟩, _, by repeat constructor⟩
theorem ropen0_tr (r : Nat) (most : Int) : Tr Tryz.prog 36 [.pointer (some ⟨r, 0, none⟩)] [blk r (rcell (.slice none 0 0) most (-1) false)]
    fun v Γ => ∃ p e, v = .tuple #[.pointer p, .int .i64 e] ∧ Γ = [] := by
  refine Tr_of_J Tryz.func36 follows rfl Tryz.ntmps36 (by simp) fun B F => ?_
  refine J_sat (Γ' := sl 89 rfE (.slice none 0 0) [] :: _) ?_ fun w hS => sl_nil hS
  repeat' (first | refine ll ?_ | (refine cle rfl (rnum0_tr b_ r (.slice none 0 0) most (-1) false) ?_; rintro v Γ' ⟨rfl, rfl⟩; refine n2 ?_) | (refine cle rfl (rrec_tr 0 0 (by decide) (by decide) ⟨0, 0, 0, []⟩) ?_; rintro v Γ' ⟨⟨t, rfl, ht⟩, rfl⟩; refine n0 ?_) | (refine cle rfl (rlay_tr b_ r (.slice none 0 0) (.slice none 0 0) [] most (-1) false [119, 49] t (by simp) (by simp) (by simp) (by omega)) ?_; rintro v Γ' ⟨e, rfl, rfl⟩; refine n0 ?_) | refine mv ?_ | refine asn ?_ | refine jn ?_ | refine nl ?_ | refine ld rfl ?_ | refine nc ?_ | refine f0 ?_ | refine xt2 ?_ | refine sq ?_ | refine rg ?_ | refine lnb ?_ | refine lls rfl ?_ | refine ad ?_ | refine sb ?_ | refine lss ?_ | refine eql ?_ | refine neq ?_ | refine kp ?_ | refine ct ?_ | refine cf ?_ | (refine cd (fun hc => ?_) (fun hc => ?_) <;> try (exfalso; omega)) | (refine cn (fun hc => ?_) (fun hc => ?_) <;> try (exfalso; omega)) | refine bl ?_ | refine ib ?_ | refine xt ?_ | refine bx (fun b_ => ?_) | refine la rfl ?_ | refine ixa rfl rfl ?_ | refine fe ?_ | refine lde rfl ?_ | refine lae rfl ?_ | refine fa ?_ | refine bld ?_ | refine seq ?_ | refine sne ?_ | refine cc ?_ | refine af_ ?_ | refine aw ?_ | refine sw ?_ | refine aeq ?_ | refine ane ?_ | refine cb (fun hc => ?_) (fun hc => ?_) | fail)
  all_goals first
    | (refine rt ?_
       exact ⟨_, ⟨_, _, rfl, rfl⟩, _, by repeat constructor⟩)
    | skip
end Go.Proofs.YtaeefjcbmkiiaaaGreatDoor
/- The law: both logs begun; the examples' steps. -/
namespace Go.Proofs.YtaeefjcbmkiiaaaGreatDoor
open Go Sl
attribute [local irreducible] J JR JS RO CR Arr Sat Tr sat blk
set_option linter.unusedVariables false
set_option maxHeartbeats 1000000
set_option maxRecDepth 4000
/-- What a log is that was just begun. -/
structure Fresh (W : LogS) (D : DiskS) (most : Int) : Prop where
  live : Live W D 0
  tot : DiskS.total D.files ≤ 38
  mst : D.most = most
  hard : W.hard = ⟨0, 0⟩
  ents : W.ents = []
  segs : W.segs.map segFile = [[119, 49]]
theorem fresh {most : Int} (h0 : 100 ≤ most) (h1 : most ≤ 10000000) : Fresh (log0 most) (disk0 most) most := by
  obtain ⟨_, a, b, c, d⟩ := open_live h0 h1
  refine ⟨a, b, c, rfl, rfl, ?_⟩
  rw [d]
  show [segName 1] = [[119, 49]]
  rw [segName_sn (by decide)]; rfl
theorem openF_tr (d m : Nat) (most : Int) (h0 : 100 ≤ most) (h1 : most ≤ 10000000) :
    Tr Tryz.prog 26 [.pointer (some ⟨d, 0, none⟩)] [blk d (dcell m (DiskS.new most)), mp fmap m (DiskS.new most).files]
      fun v Γ => ∃ (w : Nat) (sv : Value) (W : LogS) (D : DiskS), (v = .tuple #[.pointer (some ⟨w, 0, none⟩), .int .i64 0] ∧ Fresh W D most) ∧ Γ = [blk w (lcell d W.hard (.slice none 0 0) sv), sl 70 entE (.slice none 0 0) W.ents, sl 94 segE sv W.segs, blk d (dcell m D), mp fmap m D.files] :=
  (open0_tr d m (DiskS.new most) (DiskS.Ok.new (by omega) h1) rfl).post fun v Γ h B F w hS => by
    rcases h with ⟨h, _⟩ | ⟨h, w, sv, hv, hG⟩
    · exact absurd (open_live h0 h1).1 h
    · exact ⟨Γ, ⟨w, sv, log0 most, disk0 most, ⟨hv, fresh h0 h1⟩, hG⟩, hS⟩
/-- A save for which there is room. -/
theorem saveF_tr (w d m : Nat) (lv : Value) (W : LogS) (ev sv : Value) (D : DiskS) (n : Nat) (hW : Live W D n) (hn : n ≤ 1000) (h : Hrd) (hh : h.In) (h0 : 0 ≤ h.term ∧ 0 ≤ h.vote) (l : List Ent) (hl : ∀ e ∈ l, e.In ∧ goodI e.index) (hr : ∀ e ∈ l, e.right = true) (hne : l ≠ []) (hd : ∀ e ∈ l, e.In ∧ e.data.length ≤ 1) (hll : l.length ≤ 2) (hf : (DiskS.total D.files : Int) + 38 + l.length * 59 ≤ D.most) :
    Tr Tryz.prog 31 [.pointer (some ⟨w, 0, none⟩), hrdV h, lv] [sl 70 entE lv l, blk w (lcell d W.hard ev sv), sl 70 entE ev W.ents, sl 94 segE sv W.segs, blk d (dcell m D), mp fmap m D.files]
      fun v Γ => ∃ (ev' sv' : Value) (W' : LogS) (D' : DiskS), (v = .int .i64 0 ∧ Live W' D' (n + l.length) ∧ W'.ents = l.foldl putE W.ents ∧ W'.hard = h ∧ DiskS.total D'.files ≤ DiskS.total D.files + 38 + l.length * 59 ∧ D'.most = D.most) ∧ Γ = [blk w (lcell d W'.hard ev' sv'), sl 70 entE ev' W'.ents, sl 94 segE sv' W'.segs, blk d (dcell m D'), mp fmap m D'.files] := by
  have hs := hW.seg
  have hle := hW.len
  have hfit := save_fits hW h hh h0 l hl hr hne hd hf
  refine (save_tr w d m lv W ev sv D hW.sd.ok h hh l (by omega) (fun e he => ⟨(hd e he).1, by have := (hd e he).2; omega⟩) hs.ne hs.cnt hs.n0 hs.n1 hs.z0 hs.z1 hW.rise (by omega)).post fun v Γ ⟨ev', sv', hv, hG⟩ B F w hS => ?_
  exact ⟨Γ, ⟨ev', sv', _, _, ⟨by rw [hv, hfit.1], hfit.2⟩, hG⟩, hS⟩
theorem resetF_tr (w d m : Nat) (W : LogS) (ev sv : Value) (D : DiskS) (n : Nat) (hW : Live W D n) (hf : (DiskS.total D.files : Int) + 56 ≤ D.most) :
    Tr Tryz.prog 34 [.pointer (some ⟨w, 0, none⟩)] [blk w (lcell d W.hard ev sv), sl 70 entE ev W.ents, sl 94 segE sv W.segs, blk d (dcell m D), mp fmap m D.files]
      fun v Γ => ∃ (ev' : Value) (W' : LogS) (D' : DiskS), (v = .int .i64 0 ∧ W'.ents = []) ∧ Γ = [blk w (lcell d W'.hard ev' sv), sl 70 entE ev' W'.ents, sl 94 segE sv W'.segs, blk d (dcell m D'), mp fmap m D'.files] := by
  have hs := hW.seg
  have hfit := reset_fits hW hf
  refine (reset_tr w d m W ev sv D hW.sd.ok hW.hin hs.ne (by have := hs.cnt; omega) hs.n0 (by have := hs.n1; omega) hs.z0 hs.z1).post fun v Γ ⟨ev', hv, hG⟩ B F w hS => ?_
  exact ⟨Γ, ⟨ev', _, _, ⟨by rw [hv, hfit.1], hfit.2⟩, hG⟩, hS⟩
theorem begin_tr (most : Int) (h0 : 100 ≤ most) (h1 : most ≤ 1000000) :
    Tr Tryz.prog 10 [.int .i64 most] []
      fun v Γ => ∃ (b w d m : Nat) (p : Option Addr) (sv : Value) (W : LogS) (D : DiskS), (v = .tuple #[.pointer (some ⟨b, 0, none⟩), .pointer p, .bool true] ∧ Fresh W D most) ∧ Γ = [blk b (wcell d w), blk w (lcell d W.hard (.slice none 0 0) sv), sl 70 entE (.slice none 0 0) W.ents, sl 94 segE sv W.segs, blk d (dcell m D), mp fmap m D.files] := by
  refine Tr_of_J Tryz.func10 follows rfl Tryz.ntmps10 (by simp) fun B F => ?_
  repeat' (first | (refine cle rfl (new_tr most (by omega) (by omega)) ?_; rintro v Γ' ⟨d, m, rfl, rfl⟩; refine n2 ?_) | (refine cle rfl (rnew_tr most) ?_; rintro v Γ' ⟨r, q, rfl, rfl⟩; refine n1 ?_) | (refine cle rfl (openF_tr d m most h0 (by omega)) ?_; rintro v Γ' ⟨w, sv, W, D, ⟨rfl, hF⟩, rfl⟩; refine n5 ?_) | (refine cle rfl (ropen0_tr r most) ?_; rintro v Γ' ⟨p, e, rfl, rfl⟩; refine n0 ?_) | refine mv ?_ | refine asn ?_ | refine jn ?_ | refine nl ?_ | refine xt2 ?_ | refine sq ?_ | refine rg ?_ | refine eql ?_ | refine pen ?_ | refine pnn ?_ | refine p1 ?_ | refine p0 ?_ | refine sk2 ?_ | refine kp ?_ | refine ct ?_ | refine cf ?_ | (refine cd (fun hc => ?_) (fun hc => ?_) <;> try (exfalso; omega)) | (refine cn (fun hc => ?_) (fun hc => ?_) <;> try (exfalso; omega)) | refine bl ?_ | refine ib ?_ | refine xt ?_ | refine bx (fun b_ => ?_) | refine bld ?_ | refine seq ?_ | refine af_ ?_ | (refine gd (fun hc => ?_) (fun hc => ?_) <;> try (exfalso; omega)) | (refine gn (fun hc => ?_) (fun hc => ?_) <;> try (exfalso; omega)) | refine pes ?_ | refine pns ?_ | refine aeq ?_ | refine cb (fun hc => ?_) (fun hc => ?_) | refine gs (fun hc => ?_) (fun hc => ?_) | fail)
  all_goals first
    | (refine rt ?_
       exact ⟨_, ⟨_, _, _, _, _, _, _, _, ⟨rfl, hF⟩, rfl⟩, _, by repeat constructor⟩)
    | skip
end Go.Proofs.YtaeefjcbmkiiaaaGreatDoor
/- The law: chapter 3's examples hold. -/
namespace Go.Proofs.YtaeefjcbmkiiaaaGreatDoor
open Go Sl
attribute [local irreducible] J JR JS RO CR Arr Sat Tr sat blk
set_option linter.unusedVariables false
set_option maxHeartbeats 2000000
set_option maxRecDepth 4000
theorem segF_tr (w d : Nat) (h : Hrd) (ev sv : Value) (S : List Seg) (L : List Nm) (hL : S.map segFile = L) (hS : ∀ s ∈ S, 0 ≤ s.number ∧ s.number < 100) (hl : S.length ≤ 1000) : Tr Tryz.prog 16 [.pointer (some ⟨w, 0, none⟩)] [blk w (lcell d h ev sv), sl 94 segE sv S]
    fun v Γ => Γ = [sl 9 strE v L, blk w (lcell d h ev sv), sl 94 segE sv S] := by
  subst hL; exact segments_tr w d h ev sv S hS hl
theorem Live.nums {W : LogS} {D : DiskS} {n : Nat} (h : Live W D n) : (∀ s ∈ W.segs, 0 ≤ s.number ∧ s.number < 100) ∧ W.segs.length ≤ 1000 :=
  ⟨fun s hs => by have := h.sd.num_le s hs; omega, by have := h.sd.cnt; omega⟩
theorem shown_tr : Tr Tryz.prog 8 [] [] fun v Γ => v = .bool true ∧ Γ = [] := by
  refine Tr_of_J Tryz.func8 follows rfl Tryz.ntmps8 (by simp) fun B F => ?_
  repeat' (first | (refine cle rfl (new_tr 10000 (by decide) (by decide)) ?_; rintro v Γ' ⟨d, m, rfl, rfl⟩; refine n2 ?_) | (refine cle rfl (openF_tr d m 10000 (by decide) (by decide)) ?_; rintro v Γ' ⟨w, sv, W, D, ⟨rfl, hF⟩, rfl⟩; refine n5 ?_) | (refine cle rfl (segF_tr w d W.hard (.slice none 0 0) sv W.segs [[119, 49]] hF.segs hF.live.nums.1 hF.live.nums.2) ?_; rintro v4 Γ' rfl; refine n3 ?_) | (refine cle rfl (hard_tr w d W.hard (.slice none 0 0) sv) ?_; rintro v5 Γ' ⟨rfl, rfl⟩; refine n1 ?_) | refine mv ?_ | refine asn ?_ | refine jn ?_ | refine nl ?_ | refine ld rfl ?_ | refine xt2 ?_ | refine sq ?_ | refine rg ?_ | refine lnb ?_ | refine lls rfl ?_ | refine eql ?_ | refine neq ?_ | refine nt ?_ | refine pen ?_ | refine p1 ?_ | refine p0 ?_ | refine sk2 ?_ | refine kp ?_ | refine ct ?_ | refine cf ?_ | (refine cd (fun hc => ?_) (fun hc => ?_) <;> try (exfalso; omega)) | (refine cn (fun hc => ?_) (fun hc => ?_) <;> try (exfalso; omega)) | refine bl ?_ | refine ib ?_ | refine xt ?_ | refine al (fun b_ => ?_) | refine sr rfl ?_ | refine la rfl ?_ | refine ixa rfl rfl ?_ | refine lde rfl ?_ | refine lae rfl ?_ | refine bld ?_ | refine seq ?_ | refine sne ?_ | refine af_ ?_ | (refine gd (fun hc => ?_) (fun hc => ?_) <;> try (exfalso; omega)) | (refine gn (fun hc => ?_) (fun hc => ?_) <;> try (exfalso; omega)) | refine pes ?_ | refine aeq ?_ | refine ane ?_ | refine cb (fun hc => ?_) (fun hc => ?_) | refine gs (fun hc => ?_) (fun hc => ?_) | refine J_draw (id := 8) [(0, true, []), (1, true, []), (2, false, [0, 1]), (3, false, [0, 1]), (4, false, [0, 1]), (5, false, []), (6, true, [])] (by kernel_rfl) ?_ | refine J_draw (id := 9) [(0, true, []), (1, true, []), (2, false, [0, 1]), (3, false, [0, 1]), (4, false, []), (5, true, [])] (by kernel_rfl) ?_ | refine J_draw (id := 11) [(0, true, []), (1, true, []), (2, true, []), (3, true, []), (4, true, []), (5, true, []), (6, true, []), (7, true, []), (8, false, [7]), (9, false, [7]), (10, false, [7]), (11, false, []), (12, true, []), (13, true, []), (14, true, []), (15, true, []), (17, true, []), (16, false, [17]), (18, true, []), (19, true, [])] (by kernel_rfl) ?_ | refine J_draw (id := 13) [(0, true, []), (1, true, []), (2, false, [0, 1]), (3, false, [0, 1]), (4, false, []), (5, true, [])] (by kernel_rfl) ?_ | refine JS_cons rfl rfl (RO_move rfl) ?_ | refine JS_cons rfl rfl (RO_load rfl (by rfl)) ?_ | refine JS_off rfl ?_ | refine JS_cons rfl rfl (RO_extract rfl rfl) ?_ | refine JS_cons rfl rfl (RO_not rfl) ?_ | refine JS_cons rfl rfl (RO_lnb rfl) ?_ | refine JS_cons rfl rfl (RO_lls rfl) ?_ | refine JS_cons rfl rfl (RO_ixa rfl rfl (by omega)) ?_ | refine JS_cons rfl rfl (RO_lde rfl (by omega) rfl) ?_ | refine JS_offu rfl ?_ | refine JS_cons rfl rfl (RO_bld rfl (by (repeat (first | exact FillS.nil | (apply FillS.cons; rfl; rfl; constructor; rfl; (focus repeat constructor)))))) ?_ | refine JS_cons rfl rfl (RO_lae rfl (by omega) (by repeat constructor)) ?_ | refine JS_cons rfl rfl (RO_loadAgg rfl (by repeat constructor)) ?_ | fail)
  · exact absurd rfl hc
  · exact absurd rfl hc
  · simp [hF.hard, eqCells, eqCell] at hc
  have hx1 := ex_in (l := [ex1, ex2]) (.inl rfl)
  have hx2 := ex_in (l := [ex3]) (.inr (.inl rfl))
  have hx3 := ex_in (l := [ex7]) (.inr (.inr rfl))
  have hf1 : (DiskS.total D.files : Int) + 38 + ([ex1, ex2].length : Nat) * 59 ≤ D.most := by
    have := hF.tot
    have := hF.mst
    simp only [List.length_cons, List.length_nil]; omega
  repeat' (first | (refine cle rfl (entry_tr 1 1 [97]) ?_; rintro v Γ' ⟨rfl, rfl⟩; refine n0 ?_) | (refine cle rfl (entry_tr 2 1 [98]) ?_; rintro v Γ' ⟨rfl, rfl⟩; refine n0 ?_) | refine bsl (e := entE) (X := [ex1, ex2]) (fun lv1 => ?_) (.cona rfl rfl (.cona rfl rfl .nil)) | (refine cle rfl (saveF_tr w d m lv1 W (.slice none 0 0) sv D 0 hF.live (by decide) exH exH_in (by decide) [ex1, ex2] hx1.1 hx1.2.1 hx1.2.2.1 hx1.2.2.2 (by decide) hf1) ?_; rintro v Γ' ⟨ev1, sv1, W1, D1, ⟨rfl, hW1, he1, hh1, ht1, hm1⟩, rfl⟩; refine n5 ?_) | refine mv ?_ | refine asn ?_ | refine jn ?_ | refine nl ?_ | refine ld rfl ?_ | refine xt2 ?_ | refine sq ?_ | refine rg ?_ | refine lnb ?_ | refine lls rfl ?_ | refine eql ?_ | refine neq ?_ | refine nt ?_ | refine pen ?_ | refine p1 ?_ | refine p0 ?_ | refine sk2 ?_ | refine kp ?_ | refine ct ?_ | refine cf ?_ | (refine cd (fun hc => ?_) (fun hc => ?_) <;> try (exfalso; omega)) | (refine cn (fun hc => ?_) (fun hc => ?_) <;> try (exfalso; omega)) | refine bl ?_ | refine ib ?_ | refine xt ?_ | refine al (fun b_ => ?_) | refine sr rfl ?_ | refine la rfl ?_ | refine ixa rfl rfl ?_ | refine lde rfl ?_ | refine lae rfl ?_ | refine bld ?_ | refine seq ?_ | refine sne ?_ | refine af_ ?_ | (refine gd (fun hc => ?_) (fun hc => ?_) <;> try (exfalso; omega)) | (refine gn (fun hc => ?_) (fun hc => ?_) <;> try (exfalso; omega)) | refine pes ?_ | refine aeq ?_ | refine ane ?_ | refine cb (fun hc => ?_) (fun hc => ?_) | refine gs (fun hc => ?_) (fun hc => ?_) | refine J_draw (id := 8) [(0, true, []), (1, true, []), (2, false, [0, 1]), (3, false, [0, 1]), (4, false, [0, 1]), (5, false, []), (6, true, [])] (by kernel_rfl) ?_ | refine J_draw (id := 9) [(0, true, []), (1, true, []), (2, false, [0, 1]), (3, false, [0, 1]), (4, false, []), (5, true, [])] (by kernel_rfl) ?_ | refine J_draw (id := 11) [(0, true, []), (1, true, []), (2, true, []), (3, true, []), (4, true, []), (5, true, []), (6, true, []), (7, true, []), (8, false, [7]), (9, false, [7]), (10, false, [7]), (11, false, []), (12, true, []), (13, true, []), (14, true, []), (15, true, []), (17, true, []), (16, false, [17]), (18, true, []), (19, true, [])] (by kernel_rfl) ?_ | refine J_draw (id := 13) [(0, true, []), (1, true, []), (2, false, [0, 1]), (3, false, [0, 1]), (4, false, []), (5, true, [])] (by kernel_rfl) ?_ | refine JS_cons rfl rfl (RO_move rfl) ?_ | refine JS_cons rfl rfl (RO_load rfl (by rfl)) ?_ | refine JS_off rfl ?_ | refine JS_cons rfl rfl (RO_extract rfl rfl) ?_ | refine JS_cons rfl rfl (RO_not rfl) ?_ | refine JS_cons rfl rfl (RO_lnb rfl) ?_ | refine JS_cons rfl rfl (RO_lls rfl) ?_ | refine JS_cons rfl rfl (RO_ixa rfl rfl (by omega)) ?_ | refine JS_cons rfl rfl (RO_lde rfl (by omega) rfl) ?_ | refine JS_offu rfl ?_ | refine JS_cons rfl rfl (RO_bld rfl (by (repeat (first | exact FillS.nil | (apply FillS.cons; rfl; rfl; constructor; rfl; (focus repeat constructor)))))) ?_ | refine JS_cons rfl rfl (RO_lae rfl (by omega) (by repeat constructor)) ?_ | refine JS_cons rfl rfl (RO_loadAgg rfl (by repeat constructor)) ?_ | fail)
  have he1' : W1.ents = [ex1, ex2] := by rw [he1, hF.ents]; decide
  have ht1' : DiskS.total D1.files ≤ 200 := by
    have := hF.tot
    simp only [List.length_cons, List.length_nil] at ht1; omega
  have hm1' : D1.most = 10000 := by rw [hm1, hF.mst]
  have hf2 : (DiskS.total D1.files : Int) + 38 + ([ex3].length : Nat) * 59 ≤ D1.most := by
    simp only [List.length_cons, List.length_nil]; omega
  repeat' (first | (refine cle rfl (entry_tr 2 1 [99]) ?_; rintro v Γ' ⟨rfl, rfl⟩; refine n0 ?_) | refine bsl (e := entE) (X := [ex3]) (fun lv2 => ?_) (.cona rfl rfl .nil) | (refine cle rfl (saveF_tr w d m lv2 W1 ev1 sv1 D1 _ hW1 (by decide) exH exH_in (by decide) [ex3] hx2.1 hx2.2.1 hx2.2.2.1 hx2.2.2.2 (by decide) hf2) ?_; rintro v Γ' ⟨ev2, sv2, W2, D2, ⟨rfl, hW2, he2, hh2, ht2, hm2⟩, rfl⟩; refine n5 ?_) | refine mv ?_ | refine asn ?_ | refine jn ?_ | refine nl ?_ | refine ld rfl ?_ | refine xt2 ?_ | refine sq ?_ | refine rg ?_ | refine lnb ?_ | refine lls rfl ?_ | refine eql ?_ | refine neq ?_ | refine nt ?_ | refine pen ?_ | refine p1 ?_ | refine p0 ?_ | refine sk2 ?_ | refine kp ?_ | refine ct ?_ | refine cf ?_ | (refine cd (fun hc => ?_) (fun hc => ?_) <;> try (exfalso; omega)) | (refine cn (fun hc => ?_) (fun hc => ?_) <;> try (exfalso; omega)) | refine bl ?_ | refine ib ?_ | refine xt ?_ | refine al (fun b_ => ?_) | refine sr rfl ?_ | refine la rfl ?_ | refine ixa rfl rfl ?_ | refine lde rfl ?_ | refine lae rfl ?_ | refine bld ?_ | refine seq ?_ | refine sne ?_ | refine af_ ?_ | (refine gd (fun hc => ?_) (fun hc => ?_) <;> try (exfalso; omega)) | (refine gn (fun hc => ?_) (fun hc => ?_) <;> try (exfalso; omega)) | refine pes ?_ | refine aeq ?_ | refine ane ?_ | refine cb (fun hc => ?_) (fun hc => ?_) | refine gs (fun hc => ?_) (fun hc => ?_) | refine J_draw (id := 8) [(0, true, []), (1, true, []), (2, false, [0, 1]), (3, false, [0, 1]), (4, false, [0, 1]), (5, false, []), (6, true, [])] (by kernel_rfl) ?_ | refine J_draw (id := 9) [(0, true, []), (1, true, []), (2, false, [0, 1]), (3, false, [0, 1]), (4, false, []), (5, true, [])] (by kernel_rfl) ?_ | refine J_draw (id := 11) [(0, true, []), (1, true, []), (2, true, []), (3, true, []), (4, true, []), (5, true, []), (6, true, []), (7, true, []), (8, false, [7]), (9, false, [7]), (10, false, [7]), (11, false, []), (12, true, []), (13, true, []), (14, true, []), (15, true, []), (17, true, []), (16, false, [17]), (18, true, []), (19, true, [])] (by kernel_rfl) ?_ | refine J_draw (id := 13) [(0, true, []), (1, true, []), (2, false, [0, 1]), (3, false, [0, 1]), (4, false, []), (5, true, [])] (by kernel_rfl) ?_ | refine JS_cons rfl rfl (RO_move rfl) ?_ | refine JS_cons rfl rfl (RO_load rfl (by rfl)) ?_ | refine JS_off rfl ?_ | refine JS_cons rfl rfl (RO_extract rfl rfl) ?_ | refine JS_cons rfl rfl (RO_not rfl) ?_ | refine JS_cons rfl rfl (RO_lnb rfl) ?_ | refine JS_cons rfl rfl (RO_lls rfl) ?_ | refine JS_cons rfl rfl (RO_ixa rfl rfl (by omega)) ?_ | refine JS_cons rfl rfl (RO_lde rfl (by omega) rfl) ?_ | refine JS_offu rfl ?_ | refine JS_cons rfl rfl (RO_bld rfl (by (repeat (first | exact FillS.nil | (apply FillS.cons; rfl; rfl; constructor; rfl; (focus repeat constructor)))))) ?_ | refine JS_cons rfl rfl (RO_lae rfl (by omega) (by repeat constructor)) ?_ | refine JS_cons rfl rfl (RO_loadAgg rfl (by repeat constructor)) ?_ | fail)
  have he2' : W2.ents = [ex1, ex3] := by rw [he2, he1']; decide
  have ht2' : DiskS.total D2.files ≤ 400 := by
    simp only [List.length_cons, List.length_nil] at ht2; omega
  have hm2' : D2.most = 10000 := by rw [hm2, hm1']
  have hf3 : (DiskS.total D2.files : Int) + 38 + ([ex7].length : Nat) * 59 ≤ D2.most := by
    simp only [List.length_cons, List.length_nil]; omega
  have hl2 : W2.ents.length ≤ 1000000 := by rw [he2']; decide
  repeat' (first | (refine cle rfl (entries_tr w d W2.hard ev2 sv2 W2.ents hl2) ?_; rintro v6 Γ' rfl; refine n3 ?_) | (refine cle rfl (entry_tr 1 1 [97]) ?_; rintro v Γ' ⟨rfl, rfl⟩; refine n0 ?_) | (refine cle rfl (entry_tr 2 1 [99]) ?_; rintro v Γ' ⟨rfl, rfl⟩; refine n0 ?_) | refine bsl (e := entE) (X := [ex1, ex3]) (fun lv3 => ?_) (.cona rfl rfl (.cona rfl rfl .nil)) | (refine cle rfl (sameEntries_tr v6 lv3 W2.ents [ex1, ex3] hl2 (by decide)) ?_; rintro v Γ' ⟨rfl, rfl⟩; refine n2 ?_) | (refine cle rfl (hard_tr w d W2.hard ev2 sv2) ?_; rintro v5 Γ' ⟨rfl, rfl⟩; refine n1 ?_) | refine mv ?_ | refine asn ?_ | refine jn ?_ | refine nl ?_ | refine ld rfl ?_ | refine xt2 ?_ | refine sq ?_ | refine rg ?_ | refine lnb ?_ | refine lls rfl ?_ | refine eql ?_ | refine neq ?_ | refine nt ?_ | refine pen ?_ | refine p1 ?_ | refine p0 ?_ | refine sk2 ?_ | refine kp ?_ | refine ct ?_ | refine cf ?_ | (refine cd (fun hc => ?_) (fun hc => ?_) <;> try (exfalso; omega)) | (refine cn (fun hc => ?_) (fun hc => ?_) <;> try (exfalso; omega)) | refine bl ?_ | refine ib ?_ | refine xt ?_ | refine al (fun b_ => ?_) | refine sr rfl ?_ | refine la rfl ?_ | refine ixa rfl rfl ?_ | refine lde rfl ?_ | refine lae rfl ?_ | refine bld ?_ | refine seq ?_ | refine sne ?_ | refine af_ ?_ | (refine gd (fun hc => ?_) (fun hc => ?_) <;> try (exfalso; omega)) | (refine gn (fun hc => ?_) (fun hc => ?_) <;> try (exfalso; omega)) | refine pes ?_ | refine aeq ?_ | refine ane ?_ | refine cb (fun hc => ?_) (fun hc => ?_) | refine gs (fun hc => ?_) (fun hc => ?_) | refine J_draw (id := 8) [(0, true, []), (1, true, []), (2, false, [0, 1]), (3, false, [0, 1]), (4, false, [0, 1]), (5, false, []), (6, true, [])] (by kernel_rfl) ?_ | refine J_draw (id := 9) [(0, true, []), (1, true, []), (2, false, [0, 1]), (3, false, [0, 1]), (4, false, []), (5, true, [])] (by kernel_rfl) ?_ | refine J_draw (id := 11) [(0, true, []), (1, true, []), (2, true, []), (3, true, []), (4, true, []), (5, true, []), (6, true, []), (7, true, []), (8, false, [7]), (9, false, [7]), (10, false, [7]), (11, false, []), (12, true, []), (13, true, []), (14, true, []), (15, true, []), (17, true, []), (16, false, [17]), (18, true, []), (19, true, [])] (by kernel_rfl) ?_ | refine J_draw (id := 13) [(0, true, []), (1, true, []), (2, false, [0, 1]), (3, false, [0, 1]), (4, false, []), (5, true, [])] (by kernel_rfl) ?_ | refine JS_cons rfl rfl (RO_move rfl) ?_ | refine JS_cons rfl rfl (RO_load rfl (by rfl)) ?_ | refine JS_off rfl ?_ | refine JS_cons rfl rfl (RO_extract rfl rfl) ?_ | refine JS_cons rfl rfl (RO_not rfl) ?_ | refine JS_cons rfl rfl (RO_lnb rfl) ?_ | refine JS_cons rfl rfl (RO_lls rfl) ?_ | refine JS_cons rfl rfl (RO_ixa rfl rfl (by omega)) ?_ | refine JS_cons rfl rfl (RO_lde rfl (by omega) rfl) ?_ | refine JS_offu rfl ?_ | refine JS_cons rfl rfl (RO_bld rfl (by (repeat (first | exact FillS.nil | (apply FillS.cons; rfl; rfl; constructor; rfl; (focus repeat constructor)))))) ?_ | refine JS_cons rfl rfl (RO_lae rfl (by omega) (by repeat constructor)) ?_ | refine JS_cons rfl rfl (RO_loadAgg rfl (by repeat constructor)) ?_ | fail)
  · exact absurd he2' hc
  · simp [hh2, exH, eqCells, eqCell] at hc
  repeat' (first | (refine cle rfl (entry_tr 7 2 [120]) ?_; rintro v Γ' ⟨rfl, rfl⟩; refine n0 ?_) | refine bsl (e := entE) (X := [ex7]) (fun lv4 => ?_) (.cona rfl rfl .nil) | (refine cle rfl (saveF_tr w d m lv4 W2 ev2 sv2 D2 _ hW2 (by decide) exH exH_in (by decide) [ex7] hx3.1 hx3.2.1 hx3.2.2.1 hx3.2.2.2 (by decide) hf3) ?_; rintro v Γ' ⟨ev3, sv3, W3, D3, ⟨rfl, hW3, he3, hh3, ht3, hm3⟩, rfl⟩; refine n5 ?_) | refine mv ?_ | refine asn ?_ | refine jn ?_ | refine nl ?_ | refine ld rfl ?_ | refine xt2 ?_ | refine sq ?_ | refine rg ?_ | refine lnb ?_ | refine lls rfl ?_ | refine eql ?_ | refine neq ?_ | refine nt ?_ | refine pen ?_ | refine p1 ?_ | refine p0 ?_ | refine sk2 ?_ | refine kp ?_ | refine ct ?_ | refine cf ?_ | (refine cd (fun hc => ?_) (fun hc => ?_) <;> try (exfalso; omega)) | (refine cn (fun hc => ?_) (fun hc => ?_) <;> try (exfalso; omega)) | refine bl ?_ | refine ib ?_ | refine xt ?_ | refine al (fun b_ => ?_) | refine sr rfl ?_ | refine la rfl ?_ | refine ixa rfl rfl ?_ | refine lde rfl ?_ | refine lae rfl ?_ | refine bld ?_ | refine seq ?_ | refine sne ?_ | refine af_ ?_ | (refine gd (fun hc => ?_) (fun hc => ?_) <;> try (exfalso; omega)) | (refine gn (fun hc => ?_) (fun hc => ?_) <;> try (exfalso; omega)) | refine pes ?_ | refine aeq ?_ | refine ane ?_ | refine cb (fun hc => ?_) (fun hc => ?_) | refine gs (fun hc => ?_) (fun hc => ?_) | refine J_draw (id := 8) [(0, true, []), (1, true, []), (2, false, [0, 1]), (3, false, [0, 1]), (4, false, [0, 1]), (5, false, []), (6, true, [])] (by kernel_rfl) ?_ | refine J_draw (id := 9) [(0, true, []), (1, true, []), (2, false, [0, 1]), (3, false, [0, 1]), (4, false, []), (5, true, [])] (by kernel_rfl) ?_ | refine J_draw (id := 11) [(0, true, []), (1, true, []), (2, true, []), (3, true, []), (4, true, []), (5, true, []), (6, true, []), (7, true, []), (8, false, [7]), (9, false, [7]), (10, false, [7]), (11, false, []), (12, true, []), (13, true, []), (14, true, []), (15, true, []), (17, true, []), (16, false, [17]), (18, true, []), (19, true, [])] (by kernel_rfl) ?_ | refine J_draw (id := 13) [(0, true, []), (1, true, []), (2, false, [0, 1]), (3, false, [0, 1]), (4, false, []), (5, true, [])] (by kernel_rfl) ?_ | refine JS_cons rfl rfl (RO_move rfl) ?_ | refine JS_cons rfl rfl (RO_load rfl (by rfl)) ?_ | refine JS_off rfl ?_ | refine JS_cons rfl rfl (RO_extract rfl rfl) ?_ | refine JS_cons rfl rfl (RO_not rfl) ?_ | refine JS_cons rfl rfl (RO_lnb rfl) ?_ | refine JS_cons rfl rfl (RO_lls rfl) ?_ | refine JS_cons rfl rfl (RO_ixa rfl rfl (by omega)) ?_ | refine JS_cons rfl rfl (RO_lde rfl (by omega) rfl) ?_ | refine JS_offu rfl ?_ | refine JS_cons rfl rfl (RO_bld rfl (by (repeat (first | exact FillS.nil | (apply FillS.cons; rfl; rfl; constructor; rfl; (focus repeat constructor)))))) ?_ | refine JS_cons rfl rfl (RO_lae rfl (by omega) (by repeat constructor)) ?_ | refine JS_cons rfl rfl (RO_loadAgg rfl (by repeat constructor)) ?_ | fail)
  have he3' : W3.ents = [ex7] := by rw [he3, he2']; decide
  have hf4 : (DiskS.total D3.files : Int) + 56 ≤ D3.most := by
    simp only [List.length_cons, List.length_nil] at ht3; omega
  have hl3 : W3.ents.length ≤ 1000000 := by rw [he3']; decide
  repeat' (first | (refine cle rfl (entries_tr w d W3.hard ev3 sv3 W3.ents hl3) ?_; rintro v8 Γ' rfl; refine n3 ?_) | (refine cle rfl (resetF_tr w d m W3 ev3 sv3 D3 _ hW3 hf4) ?_; rintro v Γ' ⟨ev4, W4, D4, ⟨rfl, he4⟩, rfl⟩; refine n5 ?_) | (refine cle rfl (entry_tr 7 2 [120]) ?_; rintro v Γ' ⟨rfl, rfl⟩; refine n0 ?_) | refine bsl (e := entE) (X := [ex7]) (fun lv5 => ?_) (.cona rfl rfl .nil) | (refine cle rfl (sameEntries_tr v8 lv5 W3.ents [ex7] hl3 (by decide)) ?_; rintro v Γ' ⟨rfl, rfl⟩; refine n2 ?_) | (refine cle rfl (entries_tr w d W4.hard ev4 sv3 W4.ents (by rw [he4]; decide)) ?_; rintro v9 Γ' rfl; refine n3 ?_) | refine mv ?_ | refine asn ?_ | refine jn ?_ | refine nl ?_ | refine ld rfl ?_ | refine xt2 ?_ | refine sq ?_ | refine rg ?_ | refine lnb ?_ | refine lls rfl ?_ | refine eql ?_ | refine neq ?_ | refine nt ?_ | refine pen ?_ | refine p1 ?_ | refine p0 ?_ | refine sk2 ?_ | refine kp ?_ | refine ct ?_ | refine cf ?_ | (refine cd (fun hc => ?_) (fun hc => ?_) <;> try (exfalso; omega)) | (refine cn (fun hc => ?_) (fun hc => ?_) <;> try (exfalso; omega)) | refine bl ?_ | refine ib ?_ | refine xt ?_ | refine al (fun b_ => ?_) | refine sr rfl ?_ | refine la rfl ?_ | refine ixa rfl rfl ?_ | refine lde rfl ?_ | refine lae rfl ?_ | refine bld ?_ | refine seq ?_ | refine sne ?_ | refine af_ ?_ | (refine gd (fun hc => ?_) (fun hc => ?_) <;> try (exfalso; omega)) | (refine gn (fun hc => ?_) (fun hc => ?_) <;> try (exfalso; omega)) | refine pes ?_ | refine aeq ?_ | refine ane ?_ | refine cb (fun hc => ?_) (fun hc => ?_) | refine gs (fun hc => ?_) (fun hc => ?_) | refine J_draw (id := 8) [(0, true, []), (1, true, []), (2, false, [0, 1]), (3, false, [0, 1]), (4, false, [0, 1]), (5, false, []), (6, true, [])] (by kernel_rfl) ?_ | refine J_draw (id := 9) [(0, true, []), (1, true, []), (2, false, [0, 1]), (3, false, [0, 1]), (4, false, []), (5, true, [])] (by kernel_rfl) ?_ | refine J_draw (id := 11) [(0, true, []), (1, true, []), (2, true, []), (3, true, []), (4, true, []), (5, true, []), (6, true, []), (7, true, []), (8, false, [7]), (9, false, [7]), (10, false, [7]), (11, false, []), (12, true, []), (13, true, []), (14, true, []), (15, true, []), (17, true, []), (16, false, [17]), (18, true, []), (19, true, [])] (by kernel_rfl) ?_ | refine J_draw (id := 13) [(0, true, []), (1, true, []), (2, false, [0, 1]), (3, false, [0, 1]), (4, false, []), (5, true, [])] (by kernel_rfl) ?_ | refine JS_cons rfl rfl (RO_move rfl) ?_ | refine JS_cons rfl rfl (RO_load rfl (by rfl)) ?_ | refine JS_off rfl ?_ | refine JS_cons rfl rfl (RO_extract rfl rfl) ?_ | refine JS_cons rfl rfl (RO_not rfl) ?_ | refine JS_cons rfl rfl (RO_lnb rfl) ?_ | refine JS_cons rfl rfl (RO_lls rfl) ?_ | refine JS_cons rfl rfl (RO_ixa rfl rfl (by omega)) ?_ | refine JS_cons rfl rfl (RO_lde rfl (by omega) rfl) ?_ | refine JS_offu rfl ?_ | refine JS_cons rfl rfl (RO_bld rfl (by (repeat (first | exact FillS.nil | (apply FillS.cons; rfl; rfl; constructor; rfl; (focus repeat constructor)))))) ?_ | refine JS_cons rfl rfl (RO_lae rfl (by omega) (by repeat constructor)) ?_ | refine JS_cons rfl rfl (RO_loadAgg rfl (by repeat constructor)) ?_ | fail)
  · rw [he4]
    refine rt ?_
    exact ⟨_, ⟨rfl, rfl⟩, _, by repeat constructor⟩
  · exact absurd he3' hc
end Go.Proofs.YtaeefjcbmkiiaaaGreatDoor
/- The law WalFull, walked: a save that does not fit changes nothing; one that fits is done. -/
namespace Go.Proofs.YtaeefjcbmkiiaaaGreatDoor
open Go Sl
attribute [local irreducible] J JR JS RO CR Arr Sat Tr sat blk
set_option linter.unusedVariables false
set_option maxHeartbeats 2000000
set_option maxRecDepth 4000
def ex500 (data : List UInt8) : Ent := ⟨500, 9, 2, data⟩
theorem ex500_in (data : List UInt8) (hd : data.length ≤ 3000) : (ex500 data).In ∧ (ex500 data).right = true :=
  ⟨⟨by show I64 500; decide, by show I64 9; decide, by show I64 2; decide⟩, rfl⟩
/-- What the last save comes to. -/
structure Last (W : LogS) (D : DiskS) (e : Ent) (r : Int) (W' : LogS) (D' : DiskS) : Prop where
  how : (r = 0 ∧ W'.ents = [e] ∧ DiskS.total D.files < DiskS.total D'.files) ∨ (r = 6 ∧ W' = W ∧ D' = D)
  len : W'.ents.length ≤ 1000000
  ok : D'.Ok
theorem save_last {W : LogS} {D : DiskS} {n : Nat} (hW : Live W D n) (hn : n ≤ 1000) (data : List UInt8) (hd : data.length ≤ 3000) :
    Last W D (ex500 data) (W.save D W.hard [ex500 data]).1 (W.save D W.hard [ex500 data]).2.1 (W.save D W.hard [ex500 data]).2.2 := by
  obtain ⟨h1, h2⟩ := ex500_in data hd
  have hle := hW.len
  have hany : ([ex500 data].any fun e => !e.right) = false := by simp [h2]
  have hx : ¬ (W.hard.term < 0 ∨ W.hard.vote < 0 ∨ ([ex500 data].any fun e => !e.right) = true) := by rw [hany]; have := hW.h0; simp; omega
  have halone : putE W.ents (ex500 data) = [ex500 data] := putE_alone hW.rise hW.good rfl
  have hpos : 0 < (layT (begun W.segs) W.hard (decide (W.hard ≠ W.hard)) ([ex500 data].map entText)).length := by
    unfold layT; apply frames_pos; unfold told; split <;> simp
  unfold LogS.save
  rw [if_neg hx, if_neg (by rintro ⟨h, _⟩; cases h)]
  rcases lay_live hW.sd (begun_how W.segs) W.hard (decide (W.hard ≠ W.hard)) ([ex500 data].map entText) with ⟨a, b, c, cf⟩ | ⟨a, b, c, d, e⟩
  · rw [a, b, c, if_pos (by decide)]
    have : (if more W.segs then there D W.segs (begun W.segs) else begun W.segs) = W.segs := by
      unfold begun
      split
      · rename_i hm; exact there_new hW.sd (by have := hm.2; omega)
      · rfl
    rw [this]
    exact ⟨.inr ⟨rfl, rfl, rfl⟩, by show W.ents.length ≤ _; omega, hW.sd.ok⟩
  · rw [a, if_neg (by decide)]
    have hents : (puts { W with hard := W.hard, segs := layS (begun W.segs) D W.hard (decide (W.hard ≠ W.hard)) ([ex500 data].map entText) } [ex500 data]).ents = [ex500 data] := halone
    exact ⟨.inl ⟨rfl, hents, by dsimp only; omega⟩, by dsimp only; rw [hents]; simp, c.ok⟩
theorem Live.mono {W : LogS} {D : DiskS} {n k : Nat} (h : Live W D n) (hk : n ≤ k) : Live W D k := { h with len := Nat.le_trans h.len hk }
theorem saveL_tr (w d m : Nat) (lv : Value) (W : LogS) (ev sv : Value) (D : DiskS) (n : Nat) (hW : Live W D n) (hn : n ≤ 1000) (data : List UInt8) (hd : data.length ≤ 3000) :
    Tr Tryz.prog 31 [.pointer (some ⟨w, 0, none⟩), hrdV W.hard, lv] [sl 70 entE lv [ex500 data], blk w (lcell d W.hard ev sv), sl 70 entE ev W.ents, sl 94 segE sv W.segs, blk d (dcell m D), mp fmap m D.files]
      fun v Γ => ∃ (ev' sv' : Value) (r : Int) (W' : LogS) (D' : DiskS), (v = .int .i64 r ∧ Last W D (ex500 data) r W' D') ∧ Γ = [blk w (lcell d W'.hard ev' sv'), sl 70 entE ev' W'.ents, sl 94 segE sv' W'.segs, blk d (dcell m D'), mp fmap m D'.files] := by
  have hs := hW.seg
  have hle := hW.len
  obtain ⟨h1, h2⟩ := ex500_in data hd
  refine (save_tr w d m lv W ev sv D hW.sd.ok W.hard hW.hin [ex500 data] (by simp) (fun e he => by rw [List.mem_singleton.1 he]; exact ⟨h1, by show data.length ≤ _; omega⟩) hs.ne hs.cnt hs.n0 hs.n1 hs.z0 hs.z1 hW.rise (by omega)).post fun v Γ ⟨ev', sv', hv, hG⟩ B F w hS => ?_
  exact ⟨Γ, ⟨ev', sv', _, _, _, ⟨hv, save_last hW hn data hd⟩, hG⟩, hS⟩
theorem walFull_tr (lv : Value) (l : List Act) (hl : l.length ≤ 9223372036854775807) (hin : ∀ a ∈ l, a.In) (most : Int) (hm : I64 most) (data : List UInt8) (hdl : data.length ≤ 9223372036854775807) :
    Tr Tryz.prog 7 [lv, .int .i64 most, vs data] [rsl actE lv l] fun v Γ => v = .bool true ∧ Γ = [] := by
  have hpk := pickI_lt most (n := 4000) (by decide)
  refine Tr_of_J Tryz.func7 follows rfl Tryz.ntmps7 (by simp) fun B F => ?_
  repeat' (first | (refine cle rfl shown_tr ?_; rintro v Γ' ⟨rfl, rfl⟩; refine n0 ?_) | (refine cle rfl (small_tr lv l hl) ?_; rintro v Γ' ⟨⟨sm, rfl, hsm⟩, rfl⟩; refine n1 ?_) | (refine cle rfl (pick_tr most 4000 hm (by decide)) ?_; rintro v Γ' ⟨rfl, rfl⟩; refine n0 ?_) | (refine cle rfl (begin_tr (100 + pickI most 4000) (by omega) (by omega)) ?_; rintro v Γ' ⟨b, w, d, m, p, sv, W, D, ⟨rfl, hF⟩, rfl⟩; refine n6 ?_) | refine mv ?_ | refine asn ?_ | refine jn ?_ | refine nl ?_ | refine ld rfl ?_ | refine nc ?_ | refine f0 ?_ | refine xt2 ?_ | refine sq ?_ | refine rg ?_ | refine lnb ?_ | refine lls rfl ?_ | refine ad ?_ | refine lss ?_ | refine eql ?_ | refine gtr ?_ | refine nt ?_ | refine p1 ?_ | refine p0 ?_ | refine sk2 ?_ | refine kp ?_ | refine ct ?_ | refine cf ?_ | (refine cd (fun hc => ?_) (fun hc => ?_) <;> try (exfalso; omega)) | (refine cn (fun hc => ?_) (fun hc => ?_) <;> try (exfalso; omega)) | refine bl ?_ | refine ib ?_ | refine xt ?_ | refine al (fun b_ => ?_) | refine sr rfl ?_ | refine la rfl ?_ | refine ixa rfl rfl ?_ | refine fe ?_ | refine lde rfl ?_ | refine lae rfl ?_ | refine fa ?_ | refine seq ?_ | refine cc ?_ | refine af_ ?_ | (refine gd (fun hc => ?_) (fun hc => ?_) <;> try (exfalso; omega)) | (refine gn (fun hc => ?_) (fun hc => ?_) <;> try (exfalso; omega)) | refine aw ?_ | refine aeq ?_ | refine cb (fun hc => ?_) (fun hc => ?_) | refine gs (fun hc => ?_) (fun hc => ?_) | refine J_draw (id := 16) [(0, true, []), (1, true, []), (2, true, []), (3, true, []), (4, true, []), (5, true, []), (6, false, [0, 1, 2, 3, 4]), (7, false, [0, 1, 2, 3, 4]), (8, false, []), (9, true, [])] (by kernel_rfl) ?_ | refine J_draw (id := 19) [(0, true, []), (1, true, []), (2, true, []), (3, true, []), (4, true, []), (5, true, []), (6, true, []), (8, true, []), (7, false, [8]), (9, true, []), (10, true, []), (11, true, []), (12, true, []), (13, true, []), (14, true, []), (15, true, []), (17, true, []), (16, false, [17]), (18, false, []), (19, true, []), (20, true, []), (21, true, []), (22, true, []), (23, true, []), (24, true, []), (26, true, []), (25, false, [26]), (27, true, []), (28, true, []), (29, true, [])] (by kernel_rfl) ?_ | refine JS_cons rfl rfl (RO_move rfl) ?_ | refine JS_cons rfl rfl (RO_nilCheck rfl) ?_ | refine JS_cons rfl rfl (RO_fieldAddr0 rfl) ?_ | refine JS_cons rfl rfl (RO_load rfl (by rfl)) ?_ | refine JS_off rfl ?_ | refine JS_cons rfl rfl (RO_extract rfl rfl) ?_ | refine JS_cons rfl rfl (RO_not rfl) ?_ | refine JS_cons rfl rfl (RO_fieldAddr rfl) ?_ | refine JS_cons rfl rfl (RO_lnb rfl) ?_ | refine JS_cons rfl rfl (RO_lls rfl) ?_ | refine JS_cons rfl rfl (RO_add_in rfl rfl (by omega)) ?_ | refine JS_cons rfl rfl (RO_ixa rfl rfl (by omega)) ?_ | refine JS_cons rfl rfl (RO_fe rfl) ?_ | refine JS_cons rfl rfl (RO_lde rfl (by omega) rfl) ?_ | refine JS_offu rfl ?_ | refine JS_cons rfl rfl (RO_cc rfl rfl (by omega)) ?_ | refine JS_cons rfl rfl (RO_lae rfl (by omega) (by repeat constructor)) ?_ | refine JS_cons rfl rfl (RO_loadAgg rfl (by repeat constructor)) ?_ | fail)
  · refine rt ?_
    exact ⟨_, ⟨rfl, rfl⟩, _, by repeat constructor⟩
  · refine rt ?_
    exact ⟨_, ⟨rfl, rfl⟩, _, by repeat constructor⟩
  have hsm' : sm = true := by
    have h1 : (!sm) = false := by assumption
    simpa using h1
  obtain ⟨h40, h700⟩ := hsm hsm'
  have hdl : data.length ≤ 3000 := by omega
  refine lp (α := Nat × Int × Value × Value × LogS × DiskS) (fun y => [(0, lv), (2, vs data), (9, .pointer (some ⟨b, 0, none⟩)), (12, .int .i64 y.2.1)]) (fun y => [blk b (wcell d w), blk w (lcell d y.2.2.2.2.1.hard y.2.2.1 y.2.2.2.1), sl 70 entE y.2.2.1 y.2.2.2.2.1.ents, sl 94 segE y.2.2.2.1 y.2.2.2.2.1.segs, blk d (dcell m y.2.2.2.2.2), mp fmap m y.2.2.2.2.2.files, rsl actE lv l]) (fun y => y.2.1 = (y.1 : Int) ∧ y.1 ≤ l.length ∧ Live y.2.2.2.2.1 y.2.2.2.2.2 (5 * y.1)) (fun y => l.length - y.1) (0, 0, .slice none 0 0, sv, W, D) ?_ ⟨rfl, Nat.zero_le _, hF.live⟩
  clear hF
  rintro ⟨i, n, ev, sv, W, D⟩ ⟨hn, hi, hW⟩ again
  dsimp only at hn hi hW again ⊢
  subst hn
  have ha : i < l.length → (l.getD i actE.dflt).In ∧ (l.getD i actE.dflt).data.length ≤ 700 := fun h => by
    rw [actGetD h]; exact ⟨hin _ (List.getElem_mem h), h700 _ (List.getElem_mem h)⟩
  have hle := hW.len
  clear hpk hsm hsm'
  repeat' (first | (refine cle rfl (pick_tr (l.getD i actE.dflt).op 10 (ha (by omega)).1.o (by decide)) ?_; rintro v Γ' ⟨rfl, rfl⟩; refine n0 ?_) | (refine cle rfl (act_tr b w d m W ev sv D _ hW (by omega) (l.getD i actE.dflt) (ha (by omega)).1 (ha (by omega)).2 (by assumption)) ?_; rintro v Γ' ⟨ev2, sv2, rfl, rfl⟩; refine n6 ?_) | refine mv ?_ | refine asn ?_ | refine jn ?_ | refine nl ?_ | refine ld rfl ?_ | refine nc ?_ | refine f0 ?_ | refine xt2 ?_ | refine sq ?_ | refine rg ?_ | refine lnb ?_ | refine lls rfl ?_ | refine ad ?_ | refine lss ?_ | refine eql ?_ | refine gtr ?_ | refine nt ?_ | refine p1 ?_ | refine p0 ?_ | refine sk2 ?_ | refine kp ?_ | refine ct ?_ | refine cf ?_ | (refine cd (fun hc => ?_) (fun hc => ?_) <;> try (exfalso; omega)) | (refine cn (fun hc => ?_) (fun hc => ?_) <;> try (exfalso; omega)) | refine bl ?_ | refine ib ?_ | refine xt ?_ | refine al (fun b_ => ?_) | refine sr rfl ?_ | refine la rfl ?_ | refine ixa rfl rfl ?_ | refine fe ?_ | refine lde rfl ?_ | refine lae rfl ?_ | refine fa ?_ | refine seq ?_ | refine cc ?_ | refine af_ ?_ | (refine gd (fun hc => ?_) (fun hc => ?_) <;> try (exfalso; omega)) | (refine gn (fun hc => ?_) (fun hc => ?_) <;> try (exfalso; omega)) | refine aw ?_ | refine aeq ?_ | refine cb (fun hc => ?_) (fun hc => ?_) | refine gs (fun hc => ?_) (fun hc => ?_) | refine J_draw (id := 16) [(0, true, []), (1, true, []), (2, true, []), (3, true, []), (4, true, []), (5, true, []), (6, false, [0, 1, 2, 3, 4]), (7, false, [0, 1, 2, 3, 4]), (8, false, []), (9, true, [])] (by kernel_rfl) ?_ | refine J_draw (id := 19) [(0, true, []), (1, true, []), (2, true, []), (3, true, []), (4, true, []), (5, true, []), (6, true, []), (8, true, []), (7, false, [8]), (9, true, []), (10, true, []), (11, true, []), (12, true, []), (13, true, []), (14, true, []), (15, true, []), (17, true, []), (16, false, [17]), (18, false, []), (19, true, []), (20, true, []), (21, true, []), (22, true, []), (23, true, []), (24, true, []), (26, true, []), (25, false, [26]), (27, true, []), (28, true, []), (29, true, [])] (by kernel_rfl) ?_ | refine JS_cons rfl rfl (RO_move rfl) ?_ | refine JS_cons rfl rfl (RO_nilCheck rfl) ?_ | refine JS_cons rfl rfl (RO_fieldAddr0 rfl) ?_ | refine JS_cons rfl rfl (RO_load rfl (by rfl)) ?_ | refine JS_off rfl ?_ | refine JS_cons rfl rfl (RO_extract rfl rfl) ?_ | refine JS_cons rfl rfl (RO_not rfl) ?_ | refine JS_cons rfl rfl (RO_fieldAddr rfl) ?_ | refine JS_cons rfl rfl (RO_lnb rfl) ?_ | refine JS_cons rfl rfl (RO_lls rfl) ?_ | refine JS_cons rfl rfl (RO_add_in rfl rfl (by omega)) ?_ | refine JS_cons rfl rfl (RO_ixa rfl rfl (by omega)) ?_ | refine JS_cons rfl rfl (RO_fe rfl) ?_ | refine JS_cons rfl rfl (RO_lde rfl (by omega) rfl) ?_ | refine JS_offu rfl ?_ | refine JS_cons rfl rfl (RO_cc rfl rfl (by omega)) ?_ | refine JS_cons rfl rfl (RO_lae rfl (by omega) (by repeat constructor)) ?_ | refine JS_cons rfl rfl (RO_loadAgg rfl (by repeat constructor)) ?_ | fail)
  · have hi' : i < l.length := by omega
    exact ag (again (i + 1, (i : Int) + 1, ev2, sv2, (actOf W D (l.getD i actE.dflt)).2.1, (actOf W D (l.getD i actE.dflt)).2.2) ⟨by dsimp only; omega, hi', (actOf_live hW (ha hi').1).1⟩ (by dsimp only; omega))
  · have hi' : i < l.length := by omega
    exact ag (again (i + 1, (i : Int) + 1, ev, sv, W, D) ⟨by dsimp only; omega, hi', hW.mono (by omega)⟩ (by dsimp only; omega))
  clear again ha hin h700
  repeat' (first | (refine cle rfl (hard_tr w d W.hard ev sv) ?_; rintro v Γ' ⟨rfl, rfl⟩; refine n1 ?_) | (refine cle rfl (entries_tr w d W.hard ev sv W.ents (by omega)) ?_; rintro v14 Γ' rfl; refine n3 ?_) | (refine cle rfl (size_tr d m D hW.sd.ok) ?_; rintro v Γ' ⟨rfl, rfl⟩; refine n2 ?_) | (refine cle rfl (entry_tr 500 9 data) ?_; rintro v Γ' ⟨rfl, rfl⟩; refine n0 ?_) | refine mv ?_ | refine asn ?_ | refine jn ?_ | refine nl ?_ | refine ld rfl ?_ | refine nc ?_ | refine f0 ?_ | refine xt2 ?_ | refine sq ?_ | refine rg ?_ | refine lnb ?_ | refine lls rfl ?_ | refine ad ?_ | refine lss ?_ | refine eql ?_ | refine gtr ?_ | refine nt ?_ | refine p1 ?_ | refine p0 ?_ | refine sk2 ?_ | refine kp ?_ | refine ct ?_ | refine cf ?_ | (refine cd (fun hc => ?_) (fun hc => ?_) <;> try (exfalso; omega)) | (refine cn (fun hc => ?_) (fun hc => ?_) <;> try (exfalso; omega)) | refine bl ?_ | refine ib ?_ | refine xt ?_ | refine al (fun b_ => ?_) | refine sr rfl ?_ | refine la rfl ?_ | refine ixa rfl rfl ?_ | refine fe ?_ | refine lde rfl ?_ | refine lae rfl ?_ | refine fa ?_ | refine seq ?_ | refine cc ?_ | refine af_ ?_ | (refine gd (fun hc => ?_) (fun hc => ?_) <;> try (exfalso; omega)) | (refine gn (fun hc => ?_) (fun hc => ?_) <;> try (exfalso; omega)) | refine aw ?_ | refine aeq ?_ | refine cb (fun hc => ?_) (fun hc => ?_) | refine J_draw (id := 16) [(0, true, []), (1, true, []), (2, true, []), (3, true, []), (4, true, []), (5, true, []), (6, false, [0, 1, 2, 3, 4]), (7, false, [0, 1, 2, 3, 4]), (8, false, []), (9, true, [])] (by kernel_rfl) ?_ | refine J_draw (id := 19) [(0, true, []), (1, true, []), (2, true, []), (3, true, []), (4, true, []), (5, true, []), (6, true, []), (8, true, []), (7, false, [8]), (9, true, []), (10, true, []), (11, true, []), (12, true, []), (13, true, []), (14, true, []), (15, true, []), (17, true, []), (16, false, [17]), (18, false, []), (19, true, []), (20, true, []), (21, true, []), (22, true, []), (23, true, []), (24, true, []), (26, true, []), (25, false, [26]), (27, true, []), (28, true, []), (29, true, [])] (by kernel_rfl) ?_ | refine JS_cons rfl rfl (RO_move rfl) ?_ | refine JS_cons rfl rfl (RO_nilCheck rfl) ?_ | refine JS_cons rfl rfl (RO_fieldAddr0 rfl) ?_ | refine JS_cons rfl rfl (RO_load rfl (by rfl)) ?_ | refine JS_off rfl ?_ | refine JS_cons rfl rfl (RO_extract rfl rfl) ?_ | refine JS_cons rfl rfl (RO_not rfl) ?_ | refine JS_cons rfl rfl (RO_fieldAddr rfl) ?_ | refine JS_cons rfl rfl (RO_lnb rfl) ?_ | refine JS_cons rfl rfl (RO_lls rfl) ?_ | refine JS_cons rfl rfl (RO_add_in rfl rfl (by omega)) ?_ | refine JS_cons rfl rfl (RO_ixa rfl rfl (by omega)) ?_ | refine JS_cons rfl rfl (RO_fe rfl) ?_ | refine JS_cons rfl rfl (RO_lde rfl (by omega) rfl) ?_ | refine JS_offu rfl ?_ | refine JS_cons rfl rfl (RO_cc rfl rfl (by omega)) ?_ | refine JS_cons rfl rfl (RO_lae rfl (by omega) (by repeat constructor)) ?_ | refine JS_cons rfl rfl (RO_loadAgg rfl (by repeat constructor)) ?_ | fail)
  repeat' (first | refine bsl (e := entE) (X := [ex500 data]) (fun lv2 => ?_) (.cona rfl rfl .nil) | (refine cle rfl (saveL_tr w d m lv2 W ev sv D _ hW (by omega) data hdl) ?_; rintro v Γ' ⟨ev3, sv3, r, W3, D3, ⟨rfl, hL⟩, rfl⟩; refine n5 ?_) | refine mv ?_ | refine asn ?_ | refine jn ?_ | refine nl ?_ | refine ld rfl ?_ | refine nc ?_ | refine f0 ?_ | refine xt2 ?_ | refine sq ?_ | refine rg ?_ | refine lnb ?_ | refine lls rfl ?_ | refine ad ?_ | refine lss ?_ | refine eql ?_ | refine gtr ?_ | refine nt ?_ | refine p1 ?_ | refine p0 ?_ | refine sk2 ?_ | refine kp ?_ | refine ct ?_ | refine cf ?_ | (refine cd (fun hc => ?_) (fun hc => ?_) <;> try (exfalso; omega)) | (refine cn (fun hc => ?_) (fun hc => ?_) <;> try (exfalso; omega)) | refine bl ?_ | refine ib ?_ | refine xt ?_ | refine al (fun b_ => ?_) | refine sr rfl ?_ | refine la rfl ?_ | refine ixa rfl rfl ?_ | refine fe ?_ | refine lde rfl ?_ | refine lae rfl ?_ | refine fa ?_ | refine seq ?_ | refine cc ?_ | refine af_ ?_ | (refine gd (fun hc => ?_) (fun hc => ?_) <;> try (exfalso; omega)) | (refine gn (fun hc => ?_) (fun hc => ?_) <;> try (exfalso; omega)) | refine aw ?_ | refine aeq ?_ | refine cb (fun hc => ?_) (fun hc => ?_) | refine J_draw (id := 16) [(0, true, []), (1, true, []), (2, true, []), (3, true, []), (4, true, []), (5, true, []), (6, false, [0, 1, 2, 3, 4]), (7, false, [0, 1, 2, 3, 4]), (8, false, []), (9, true, [])] (by kernel_rfl) ?_ | refine J_draw (id := 19) [(0, true, []), (1, true, []), (2, true, []), (3, true, []), (4, true, []), (5, true, []), (6, true, []), (8, true, []), (7, false, [8]), (9, true, []), (10, true, []), (11, true, []), (12, true, []), (13, true, []), (14, true, []), (15, true, []), (17, true, []), (16, false, [17]), (18, false, []), (19, true, []), (20, true, []), (21, true, []), (22, true, []), (23, true, []), (24, true, []), (26, true, []), (25, false, [26]), (27, true, []), (28, true, []), (29, true, [])] (by kernel_rfl) ?_ | refine JS_cons rfl rfl (RO_move rfl) ?_ | refine JS_cons rfl rfl (RO_nilCheck rfl) ?_ | refine JS_cons rfl rfl (RO_fieldAddr0 rfl) ?_ | refine JS_cons rfl rfl (RO_load rfl (by rfl)) ?_ | refine JS_off rfl ?_ | refine JS_cons rfl rfl (RO_extract rfl rfl) ?_ | refine JS_cons rfl rfl (RO_not rfl) ?_ | refine JS_cons rfl rfl (RO_fieldAddr rfl) ?_ | refine JS_cons rfl rfl (RO_lnb rfl) ?_ | refine JS_cons rfl rfl (RO_lls rfl) ?_ | refine JS_cons rfl rfl (RO_add_in rfl rfl (by omega)) ?_ | refine JS_cons rfl rfl (RO_ixa rfl rfl (by omega)) ?_ | refine JS_cons rfl rfl (RO_fe rfl) ?_ | refine JS_cons rfl rfl (RO_lde rfl (by omega) rfl) ?_ | refine JS_offu rfl ?_ | refine JS_cons rfl rfl (RO_cc rfl rfl (by omega)) ?_ | refine JS_cons rfl rfl (RO_lae rfl (by omega) (by repeat constructor)) ?_ | refine JS_cons rfl rfl (RO_loadAgg rfl (by repeat constructor)) ?_ | fail)
  · have hq : W3.ents = [ex500 data] ∧ DiskS.total D.files < DiskS.total D3.files := by
      rcases hL.how with ⟨_, h1, h2⟩ | ⟨h1, _⟩
      · exact ⟨h1, h2⟩
      · omega
    have hlen := hL.len
    have hok := hL.ok
    clear hL hW
    repeat' (first | (refine cle rfl (entries_tr w d W3.hard ev3 sv3 W3.ents hlen) ?_; rintro v15 Γ' rfl; refine n3 ?_) | (refine cle rfl (entry_tr 500 9 data) ?_; rintro v Γ' ⟨rfl, rfl⟩; refine n0 ?_) | refine bsl (e := entE) (X := [ex500 data]) (fun lv3 => ?_) (.cona rfl rfl .nil) | (refine cle rfl (sameEntries_tr v15 lv3 W3.ents [ex500 data] hlen (by simp)) ?_; rintro v Γ' ⟨rfl, rfl⟩; refine n2 ?_) | (refine cle rfl (size_tr d m D3 hok) ?_; rintro v Γ' ⟨rfl, rfl⟩; refine n2 ?_) | refine mv ?_ | refine asn ?_ | refine jn ?_ | refine nl ?_ | refine ld rfl ?_ | refine nc ?_ | refine f0 ?_ | refine xt2 ?_ | refine sq ?_ | refine rg ?_ | refine lnb ?_ | refine lls rfl ?_ | refine ad ?_ | refine lss ?_ | refine eql ?_ | refine gtr ?_ | refine nt ?_ | refine p1 ?_ | refine p0 ?_ | refine sk2 ?_ | refine kp ?_ | refine ct ?_ | refine cf ?_ | (refine cd (fun hc => ?_) (fun hc => ?_) <;> try (exfalso; omega)) | (refine cn (fun hc => ?_) (fun hc => ?_) <;> try (exfalso; omega)) | refine bl ?_ | refine ib ?_ | refine xt ?_ | refine al (fun b_ => ?_) | refine sr rfl ?_ | refine la rfl ?_ | refine ixa rfl rfl ?_ | refine fe ?_ | refine lde rfl ?_ | refine lae rfl ?_ | refine fa ?_ | refine seq ?_ | refine cc ?_ | refine af_ ?_ | (refine gd (fun hc => ?_) (fun hc => ?_) <;> try (exfalso; omega)) | (refine gn (fun hc => ?_) (fun hc => ?_) <;> try (exfalso; omega)) | refine aw ?_ | refine aeq ?_ | refine cb (fun hc => ?_) (fun hc => ?_) | refine gs (fun hc => ?_) (fun hc => ?_) | refine J_draw (id := 16) [(0, true, []), (1, true, []), (2, true, []), (3, true, []), (4, true, []), (5, true, []), (6, false, [0, 1, 2, 3, 4]), (7, false, [0, 1, 2, 3, 4]), (8, false, []), (9, true, [])] (by kernel_rfl) ?_ | refine J_draw (id := 19) [(0, true, []), (1, true, []), (2, true, []), (3, true, []), (4, true, []), (5, true, []), (6, true, []), (8, true, []), (7, false, [8]), (9, true, []), (10, true, []), (11, true, []), (12, true, []), (13, true, []), (14, true, []), (15, true, []), (17, true, []), (16, false, [17]), (18, false, []), (19, true, []), (20, true, []), (21, true, []), (22, true, []), (23, true, []), (24, true, []), (26, true, []), (25, false, [26]), (27, true, []), (28, true, []), (29, true, [])] (by kernel_rfl) ?_ | refine JS_cons rfl rfl (RO_move rfl) ?_ | refine JS_cons rfl rfl (RO_nilCheck rfl) ?_ | refine JS_cons rfl rfl (RO_fieldAddr0 rfl) ?_ | refine JS_cons rfl rfl (RO_load rfl (by rfl)) ?_ | refine JS_off rfl ?_ | refine JS_cons rfl rfl (RO_extract rfl rfl) ?_ | refine JS_cons rfl rfl (RO_not rfl) ?_ | refine JS_cons rfl rfl (RO_fieldAddr rfl) ?_ | refine JS_cons rfl rfl (RO_lnb rfl) ?_ | refine JS_cons rfl rfl (RO_lls rfl) ?_ | refine JS_cons rfl rfl (RO_add_in rfl rfl (by omega)) ?_ | refine JS_cons rfl rfl (RO_ixa rfl rfl (by omega)) ?_ | refine JS_cons rfl rfl (RO_fe rfl) ?_ | refine JS_cons rfl rfl (RO_lde rfl (by omega) rfl) ?_ | refine JS_offu rfl ?_ | refine JS_cons rfl rfl (RO_cc rfl rfl (by omega)) ?_ | refine JS_cons rfl rfl (RO_lae rfl (by omega) (by repeat constructor)) ?_ | refine JS_cons rfl rfl (RO_loadAgg rfl (by repeat constructor)) ?_ | fail)
    · refine rt ?_
      refine ⟨_, ⟨?_, rfl⟩, _, by repeat constructor⟩
      show Value.bool _ = _
      congr 1
      exact decide_eq_true (by omega)
    · exact absurd hq.1 hc
  · obtain ⟨rfl, rfl⟩ : W3 = W ∧ D3 = D := by
      rcases hL.how with ⟨h1, _⟩ | ⟨_, h1, h2⟩
      · omega
      · exact ⟨h1, h2⟩
    have hok := hL.ok
    have hl2 : W3.ents.length ≤ 1000000 := by omega
    clear hL hW
    repeat' (first | (refine cle rfl (hard_tr w d W3.hard ev3 sv3) ?_; rintro v Γ' ⟨rfl, rfl⟩; refine n1 ?_) | (refine cle rfl (entries_tr w d W3.hard ev3 sv3 W3.ents hl2) ?_; rintro v15 Γ' rfl; refine n3 ?_) | (refine cle rfl (sameEntries_tr v15 v14 W3.ents W3.ents hl2 hl2) ?_; rintro v Γ' ⟨rfl, rfl⟩; refine n2 ?_) | (refine cle rfl (size_tr d m D3 hok) ?_; rintro v Γ' ⟨rfl, rfl⟩; refine n2 ?_) | refine mv ?_ | refine asn ?_ | refine jn ?_ | refine nl ?_ | refine ld rfl ?_ | refine nc ?_ | refine f0 ?_ | refine xt2 ?_ | refine sq ?_ | refine rg ?_ | refine lnb ?_ | refine lls rfl ?_ | refine ad ?_ | refine lss ?_ | refine eql ?_ | refine gtr ?_ | refine nt ?_ | refine p1 ?_ | refine p0 ?_ | refine sk2 ?_ | refine kp ?_ | refine ct ?_ | refine cf ?_ | (refine cd (fun hc => ?_) (fun hc => ?_) <;> try (exfalso; omega)) | (refine cn (fun hc => ?_) (fun hc => ?_) <;> try (exfalso; omega)) | refine bl ?_ | refine ib ?_ | refine xt ?_ | refine al (fun b_ => ?_) | refine sr rfl ?_ | refine la rfl ?_ | refine ixa rfl rfl ?_ | refine fe ?_ | refine lde rfl ?_ | refine lae rfl ?_ | refine fa ?_ | refine seq ?_ | refine cc ?_ | refine af_ ?_ | (refine gd (fun hc => ?_) (fun hc => ?_) <;> try (exfalso; omega)) | (refine gn (fun hc => ?_) (fun hc => ?_) <;> try (exfalso; omega)) | refine aw ?_ | refine aeq ?_ | refine cb (fun hc => ?_) (fun hc => ?_) | refine gs (fun hc => ?_) (fun hc => ?_) | refine J_draw (id := 16) [(0, true, []), (1, true, []), (2, true, []), (3, true, []), (4, true, []), (5, true, []), (6, false, [0, 1, 2, 3, 4]), (7, false, [0, 1, 2, 3, 4]), (8, false, []), (9, true, [])] (by kernel_rfl) ?_ | refine J_draw (id := 19) [(0, true, []), (1, true, []), (2, true, []), (3, true, []), (4, true, []), (5, true, []), (6, true, []), (8, true, []), (7, false, [8]), (9, true, []), (10, true, []), (11, true, []), (12, true, []), (13, true, []), (14, true, []), (15, true, []), (17, true, []), (16, false, [17]), (18, false, []), (19, true, []), (20, true, []), (21, true, []), (22, true, []), (23, true, []), (24, true, []), (26, true, []), (25, false, [26]), (27, true, []), (28, true, []), (29, true, [])] (by kernel_rfl) ?_ | refine JS_cons rfl rfl (RO_move rfl) ?_ | refine JS_cons rfl rfl (RO_nilCheck rfl) ?_ | refine JS_cons rfl rfl (RO_fieldAddr0 rfl) ?_ | refine JS_cons rfl rfl (RO_load rfl (by rfl)) ?_ | refine JS_off rfl ?_ | refine JS_cons rfl rfl (RO_extract rfl rfl) ?_ | refine JS_cons rfl rfl (RO_not rfl) ?_ | refine JS_cons rfl rfl (RO_fieldAddr rfl) ?_ | refine JS_cons rfl rfl (RO_lnb rfl) ?_ | refine JS_cons rfl rfl (RO_lls rfl) ?_ | refine JS_cons rfl rfl (RO_add_in rfl rfl (by omega)) ?_ | refine JS_cons rfl rfl (RO_ixa rfl rfl (by omega)) ?_ | refine JS_cons rfl rfl (RO_fe rfl) ?_ | refine JS_cons rfl rfl (RO_lde rfl (by omega) rfl) ?_ | refine JS_offu rfl ?_ | refine JS_cons rfl rfl (RO_cc rfl rfl (by omega)) ?_ | refine JS_cons rfl rfl (RO_lae rfl (by omega) (by repeat constructor)) ?_ | refine JS_cons rfl rfl (RO_loadAgg rfl (by repeat constructor)) ?_ | fail)
    · refine rt ?_
      refine ⟨_, ⟨?_, rfl⟩, _, by repeat constructor⟩
      show Value.bool _ = _
      congr 1
      exact decide_eq_true rfl
    · exact absurd rfl hc
    · rw [eqH] at hc; simp at hc
  · exfalso
    rcases hL.how with ⟨h1, _⟩ | ⟨h1, _⟩ <;> omega
end Go.Proofs.YtaeefjcbmkiiaaaGreatDoor
/- Bytes read back: numbers, texts, frames, records: plain. -/
namespace Go.Proofs.YtaeefjcbmkiiaaaGreatDoor
open Go Sl
set_option linter.unusedVariables false

def unzig (v : Nat) : Int := if v % 2 = 0 then (v / 2 : Nat) else -((v / 2 : Nat) : Int) - 1
/-- A number read: the i-th byte is next, v is what was read so far. -/
def toIntFrom : Nat → Nat → List UInt8 → Option (Int × List UInt8)
  | _, _, [] => none
  | i, v, c :: s =>
    if 10 ≤ i ∨ (i = 0 ∧ c.toNat = 128) ∨ 0 < v / 144115188075855872 then none
    else if c.toNat < 128 then some (unzig (v * 128 + c.toNat % 128), s)
    else toIntFrom (i + 1) (v * 128 + c.toNat % 128) s
def toInt (s : List UInt8) : Option (Int × List UInt8) := toIntFrom 0 0 s
def toText (s : List UInt8) : Option (List UInt8 × List UInt8) :=
  match toInt s with
  | some (n, r) => if n < 0 ∨ (r.length : Int) < n then none else some (r.take n.toNat, r.drop n.toNat)
  | none => none
/-- So many numbers, none of them below 0. -/
def toInts : Nat → List UInt8 → Option (List Int × List UInt8)
  | 0, s => some ([], s)
  | k + 1, s => match toInt s with
    | some (n, r) => if n < 0 then none else match toInts k r with
      | some (l, r') => some (n :: l, r')
      | none => none
    | none => none
def be32 (s : List UInt8) : Nat := (s.getD 0 0).toNat * 16777216 + (s.getD 1 0).toNat * 65536 + (s.getD 2 0).toNat * 256 + (s.getD 3 0).toNat
/-- A frame taken off: the error, the payload, how many bytes. -/
def unframe (s : List UInt8) : Int × List UInt8 × Nat :=
  if s.length < 4 then (8, [], 0)
  else if 65536 < be32 s then (10, [], 0)
  else if s.length < 8 + be32 s then (8, [], 0)
  else if frame ((s.take (8 + be32 s)).drop 8) ≠ s.take (8 + be32 s) then (9, [], 0)
  else (0, (s.take (8 + be32 s)).drop 8, 8 + be32 s)
inductive Rec where
  | hard (h : Hrd)
  | ent (e : Ent)
  | reset
def toRec (s : List UInt8) : Option Rec :=
  match toInt s with
  | none => none
  | some (k, r) =>
    if k = 1 then match toInts 2 r with
      | some ([t, v], []) => some (.hard ⟨t, v⟩)
      | _ => none
    else if k = 2 then match toInts 3 r with
      | some ([i, t, k], r) => match toText r with
        | some (d, []) => if Ent.right ⟨i, t, k, d⟩ then some (.ent ⟨i, t, k, d⟩) else none
        | _ => none
      | _ => none
    else if k = 3 ∧ r = [] then some .reset else none
def LogS.recd (W : LogS) : Rec → LogS
  | .hard h => { W with hard := h }
  | .ent e => W.put e
  | .reset => { W with ents := [] }

/-! ### what is written is read -/
theorem unzig_zig (n : Int) : unzig (zig n) = n := by
  unfold unzig zig
  split <;> split <;> omega
/-- The value of bytes, the highest first. -/
theorem toIntFrom_hi (w : Nat) : ∀ (i v : Nat) (rest : List UInt8), i + glen w ≤ 9 → (i = 0 → v = 0) → v * 128 ^ glen w + w < 144115188075855872 → (i = 0 ∨ 0 < v) → toIntFrom i v (natHi w ++ rest) = toIntFrom (i + glen w) (v * 128 ^ glen w + w) rest := by
  induction w using Nat.strongRecOn with
  | _ w ih =>
    intro i v rest hi h0 hlt hpos
    by_cases hw : w = 0
    · subst hw; rw [natHi_zero, glen_zero]; simp
    · rw [natHi_pos hw, glen_pos hw, List.append_assoc]
      have hg := glen_pos hw
      have hp : v * 128 ^ (glen (w / 128) + 1) = v * 128 ^ glen (w / 128) * 128 := by rw [Nat.pow_succ, Nat.mul_assoc]
      rw [hg, hp] at hlt
      rw [ih (w / 128) (by omega) i v _ (by omega) h0 (by omega) hpos]
      rw [List.cons_append, List.nil_append, toIntFrom]
      have hc : (UInt8.ofNat (w % 128 + 128)).toNat = w % 128 + 128 := by rw [UInt8.toNat_ofNat']; omega
      rw [hc]
      have hne : ¬ (10 ≤ i + glen (w / 128) ∨ (i + glen (w / 128) = 0 ∧ w % 128 + 128 = 128) ∨ 0 < (v * 128 ^ glen (w / 128) + w / 128) / 144115188075855872) := by
        rintro (h | ⟨h1, h2⟩ | h)
        · omega
        · have hz : glen (w / 128) = 0 := by omega
          have : w / 128 = 0 := by
            rcases Nat.eq_zero_or_pos (w / 128) with h | h
            · exact h
            · rw [glen_pos (by omega)] at hz; omega
          omega
        · rw [Nat.div_eq_of_lt (by omega)] at h; omega
      rw [if_neg hne, if_neg (by omega), hp]
      congr 1
      omega
theorem toInt_enc {n : Int} (h1 : -9223372036854775808 ≤ n) (h2 : n ≤ 9223372036854775807) (rest : List UInt8) : toInt (encInt n ++ rest) = some (n, rest) := by
  have hz := zig_lt h1 h2
  have hg : glen (zig n / 128) ≤ 9 := glen_bound _ 9 (by omega)
  unfold toInt encInt encNat
  rw [List.append_assoc, toIntFrom_hi (zig n / 128) 0 0 _ (by omega) (fun _ => rfl) (by omega) (.inl rfl)]
  rw [List.cons_append, List.nil_append, toIntFrom]
  have hc : (UInt8.ofNat (zig n % 128)).toNat = zig n % 128 := by rw [UInt8.toNat_ofNat']; omega
  rw [hc, Nat.zero_mul, Nat.zero_add, Nat.zero_add]
  have hne : ¬ (10 ≤ glen (zig n / 128) ∨ (glen (zig n / 128) = 0 ∧ zig n % 128 = 128) ∨ 0 < zig n / 128 / 144115188075855872) := by
    rintro (h | ⟨_, h⟩ | h)
    · omega
    · omega
    · rw [Nat.div_eq_of_lt (by omega)] at h; omega
  rw [if_neg hne, if_pos (by omega)]
  have : zig n / 128 * 128 + zig n % 128 % 128 = zig n := by omega
  rw [this, unzig_zig]
theorem toText_enc {s : List UInt8} (hs : s.length ≤ 1000000) (rest : List UInt8) : toText (encText s ++ rest) = some (s, rest) := by
  unfold toText encText
  rw [List.append_assoc, toInt_enc (by omega) (by omega)]
  dsimp only
  rw [if_neg (by rw [List.length_append]; omega)]
  simp
theorem toInts_enc (l : List Int) (hl : ∀ n ∈ l, 0 ≤ n ∧ n ≤ 9223372036854775807) (rest : List UInt8) : toInts l.length (encInts l ++ rest) = some (l, rest) := by
  induction l with
  | nil => simp [toInts, encInts]
  | cons n l ih =>
    have h := hl n (List.mem_cons_self ..)
    have e : encInts (n :: l) ++ rest = encInt n ++ (encInts l ++ rest) := by simp [encInts]
    rw [List.length_cons, toInts, e, toInt_enc (by omega) h.2]
    dsimp only
    rw [if_neg (by omega), ih fun m hm => hl m (List.mem_cons_of_mem _ hm)]
theorem toRec_hard {h : Hrd} (hh : h.In) (h0 : 0 ≤ h.term ∧ 0 ≤ h.vote) : toRec (hardText h) = some (.hard h) := by
  have e : hardText h = encInt 1 ++ (encInts [h.term, h.vote] ++ []) := by simp [hardText, encInts]
  unfold toRec
  rw [e, toInt_enc (by decide) (by decide)]
  dsimp only
  have := toInts_enc [h.term, h.vote] (fun n hn => by
    simp only [List.mem_cons, List.not_mem_nil, or_false] at hn
    rcases hn with rfl | rfl
    · exact ⟨h0.1, hh.t.2⟩
    · exact ⟨h0.2, hh.v.2⟩) []
  rw [if_pos rfl, show (2 : Nat) = [h.term, h.vote].length from rfl, this]
theorem toRec_ent {e : Ent} (he : e.In) (hr : e.right = true) (hd : e.data.length ≤ 1000000) : toRec (entText e) = some (.ent e) := by
  have hr' := hr
  simp only [Ent.right, Bool.and_eq_true, decide_eq_true_eq] at hr'
  have e1 : entText e = encInt 2 ++ (encInts [e.index, e.term, e.kind] ++ (encText e.data ++ [])) := by simp [entText, encInts, encTexts]
  unfold toRec
  rw [e1, toInt_enc (by decide) (by decide)]
  dsimp only
  have := toInts_enc [e.index, e.term, e.kind] (fun n hn => by
    simp only [List.mem_cons, List.not_mem_nil, or_false] at hn
    rcases hn with rfl | rfl | rfl
    · exact ⟨by omega, he.i.2⟩
    · exact ⟨by omega, he.t.2⟩
    · exact ⟨by omega, he.k.2⟩) (encText e.data ++ [])
  rw [if_neg (by decide), if_pos rfl, show (3 : Nat) = [e.index, e.term, e.kind].length from rfl, this]
  dsimp only
  rw [toText_enc hd]
  dsimp only
  rw [if_pos hr]
theorem toRec_reset : toRec resetText = some .reset := by
  have e : resetText = encInt 3 ++ [] := by simp [resetText, encInts]
  unfold toRec
  rw [e, toInt_enc (by decide) (by decide)]
  simp
theorem be32_four {n : Nat} (h : n < 4294967296) (rest : List UInt8) : be32 (four n ++ rest) = n := by
  unfold be32 four
  simp only [List.cons_append, List.nil_append, List.getD_cons_zero, List.getD_cons_succ, UInt8.toNat_ofNat']
  omega
theorem unframe_frame {s : List UInt8} (hs : s.length ≤ 65536) (rest : List UInt8) : unframe (frame s ++ rest) = (0, s, 8 + s.length) := by
  have hl := frame_length s
  have hb : be32 (frame s ++ rest) = s.length := by
    unfold frame; rw [List.append_assoc, List.append_assoc]; exact be32_four (by omega) _
  have ht : (frame s ++ rest).take (8 + s.length) = frame s := by rw [← hl]; simp
  have hdr : (frame s).drop 8 = s := by
    unfold frame
    rw [List.drop_append_of_le_length (by simp [four]), List.drop_of_length_le (by simp [four]), List.nil_append]
  unfold unframe
  rw [hb, ht, hdr, if_neg (by rw [List.length_append, hl]; omega), if_neg (by omega), if_neg (by rw [List.length_append, hl]; omega), if_neg (by simp)]
end Go.Proofs.YtaeefjcbmkiiaaaGreatDoor
/- A log read back from its segments: plain. -/
namespace Go.Proofs.YtaeefjcbmkiiaaaGreatDoor
open Go Sl
set_option linter.unusedVariables false
theorem unzig_in {v : Nat} (h : v < 18446744073709551616) : I64 (unzig v) := by
  unfold unzig I64; split <;> omega
theorem toIntFrom_in : ∀ (s : List UInt8) (i v : Nat) {n : Int} {r : List UInt8}, toIntFrom i v s = some (n, r) → I64 n
  | [], i, v, n, r, h => by simp [toIntFrom] at h
  | c :: s, i, v, n, r, h => by
    rw [toIntFrom] at h
    split at h
    · cases h
    · rename_i hn
      split at h
      · cases h
        apply unzig_in
        have : ¬ 0 < v / 144115188075855872 := fun hx => hn (.inr (.inr hx))
        omega
      · exact toIntFrom_in s _ _ h
theorem toInt_in {s : List UInt8} {n : Int} {r : List UInt8} (h : toInt s = some (n, r)) : I64 n := toIntFrom_in s 0 0 h
theorem toInts_in : ∀ {k : Nat} {s : List UInt8} {l : List Int} {r : List UInt8}, toInts k s = some (l, r) → l.length = k ∧ ∀ n ∈ l, 0 ≤ n ∧ I64 n
  | 0, s, l, r, h => by
    rw [toInts] at h; cases h
    exact ⟨rfl, fun n hn => by cases hn⟩
  | k + 1, s, l, r, h => by
    rw [toInts] at h
    split at h
    · rename_i n r1 h1
      split at h
      · cases h
      · split at h
        · rename_i l2 r2 h2
          cases h
          obtain ⟨h3, h4⟩ := toInts_in h2
          refine ⟨by simp [h3], fun m hm => ?_⟩
          rcases List.mem_cons.1 hm with rfl | hm
          · exact ⟨by omega, toInt_in h1⟩
          · exact h4 m hm
        · cases h
    · cases h
/-- The last segment has so many bytes more. -/
def LogS.grew (W : LogS) (n : Nat) : LogS := { W with segs := setLast W.segs { lastS W.segs with size := (lastS W.segs).size + n } }
/-- Records read off: the log, what is left over, why it stopped. -/
def readAll : Nat → LogS → List UInt8 → LogS × List UInt8 × Int
  | 0, W, s => (W, s, 0)
  | k + 1, W, s =>
    if s = [] then (W, s, 0)
    else if (unframe s).1 = 0 then
      match toRec (unframe s).2.1 with
      | some r => readAll k ((W.recd r).grew (unframe s).2.2) (s.drop (unframe s).2.2)
      | none => (W, s, 8)
    else (W, s, if (unframe s).1 = 9 then 9 else 8)
/-- A payload of a record. -/
def Rec.text : Rec → List UInt8
  | .hard h => hardText h
  | .ent e => entText e
  | .reset => resetText
def Rec.Good : Rec → Prop
  | .hard h => h.In ∧ 0 ≤ h.term ∧ 0 ≤ h.vote
  | .ent e => e.In ∧ e.right = true ∧ e.data.length ≤ 60000
  | .reset => True
theorem toRec_text {r : Rec} (h : r.Good) : toRec r.text = some r := by
  cases r with
  | hard x => exact toRec_hard h.1 h.2
  | ent e => exact toRec_ent h.1 h.2.1 (by have := h.2.2; omega)
  | reset => exact toRec_reset
end Go.Proofs.YtaeefjcbmkiiaaaGreatDoor
/- What a log's segments hold: records; a log read back is the log: plain. -/
namespace Go.Proofs.YtaeefjcbmkiiaaaGreatDoor
open Go Sl
set_option linter.unusedVariables false
set_option linter.unusedSimpArgs false
/-- What records make of what must not be forgotten, and of the entries. -/
def Rec.app (x : Hrd × List Ent) : Rec → Hrd × List Ent
  | .hard h => (h, x.2)
  | .ent e => (x.1, putE x.2 e)
  | .reset => (x.1, [])
def texts (l : List Rec) : List (List UInt8) := l.map Rec.text
def bytesOf (l : List Rec) : List UInt8 := frames (texts l)
theorem bytesOf_append (a b : List Rec) : bytesOf (a ++ b) = bytesOf a ++ bytesOf b := by simp [bytesOf, texts, frames]
theorem bytesOf_cons (r : Rec) (l : List Rec) : bytesOf (r :: l) = frame r.text ++ bytesOf l := by simp [bytesOf, texts, frames]
theorem Rec.text_len {r : Rec} (h : r.Good) : r.text.length ≤ 65536 := by
  cases r with
  | hard x =>
    have h1 := encInt_length (n := 1) (by decide) (by decide)
    have h2 := encInt_length h.1.t.1 h.1.t.2
    have h3 := encInt_length h.1.v.1 h.1.v.2
    simp only [Rec.text, hardText, encInts, List.flatMap_cons, List.flatMap_nil, List.length_append, List.append_nil]
    omega
  | ent e =>
    have h2 := (encInt_length (n := 2) (by decide) (by decide)).2
    have h3 := (encInt_length h.1.i.1 h.1.i.2).2
    have h4 := (encInt_length h.1.t.1 h.1.t.2).2
    have h5 := (encInt_length h.1.k.1 h.1.k.2).2
    have hd := h.2.2
    have h6 := (encInt_length (n := e.data.length) (by omega) (by omega)).2
    simp only [Rec.text, entText, encInts, encTexts, encText, List.flatMap_cons, List.flatMap_nil, List.length_append, List.append_nil]
    omega
  | reset =>
    have h1 := encInt_length (n := 3) (by decide) (by decide)
    simp only [Rec.text, resetText, encInts, List.flatMap_cons, List.flatMap_nil, List.append_nil]
    omega
/-- One record read: the log behind it. -/
def LogS.step (W : LogS) (r : Rec) : LogS := (W.recd r).grew (8 + r.text.length)
theorem readAll_bytes (l : List Rec) : ∀ (k : Nat) (W : LogS), (∀ r ∈ l, r.Good) → (bytesOf l).length ≤ k → readAll k W (bytesOf l) = (l.foldl LogS.step W, [], 0) := by
  induction l with
  | nil =>
    intro k W _ _
    cases k with
    | zero => rfl
    | succ k => rw [readAll]; rfl
  | cons r l ih =>
    intro k W hg hk
    have hr := hg r (List.mem_cons_self ..)
    have hfl := frame_length r.text
    rw [bytesOf_cons] at hk ⊢
    rw [List.length_append] at hk
    obtain ⟨k, rfl⟩ : ∃ j, k = j + 1 := ⟨k - 1, by omega⟩
    have hu := unframe_frame (Rec.text_len hr) (bytesOf l)
    have hne : ¬ frame r.text ++ bytesOf l = [] := fun h => by
      have := congrArg List.length h
      rw [List.length_append, hfl] at this; simp at this
    rw [readAll, if_neg hne, hu]
    dsimp only
    rw [if_pos rfl, toRec_text hr]
    dsimp only
    have hd : (frame r.text ++ bytesOf l).drop (8 + r.text.length) = bytesOf l := by rw [← hfl]; simp
    rw [hd, ih k _ (fun x hx => hg x (List.mem_cons_of_mem _ hx)) (by omega)]
    rfl
theorem step_he (W : LogS) (r : Rec) : ((W.step r).hard, (W.step r).ents) = Rec.app (W.hard, W.ents) r := by cases r <;> rfl
theorem steps_he (l : List Rec) : ∀ W : LogS, ((l.foldl LogS.step W).hard, (l.foldl LogS.step W).ents) = l.foldl Rec.app (W.hard, W.ents) := by
  induction l with
  | nil => intro W; rfl
  | cons r l ih => intro W; rw [List.foldl_cons, List.foldl_cons, ih, step_he]
end Go.Proofs.YtaeefjcbmkiiaaaGreatDoor
/- A segment read off the disk: plain. -/
namespace Go.Proofs.YtaeefjcbmkiiaaaGreatDoor
open Go Sl
set_option linter.unusedVariables false
set_option linter.unusedSimpArgs false
theorem unframe_ok {s : List UInt8} (h : (unframe s).1 = 0) : (unframe s).2.2 = 8 + (unframe s).2.1.length ∧ (unframe s).2.2 ≤ s.length := by
  unfold unframe at h ⊢
  split at h
  · cases h
  split at h
  · cases h
  split at h
  · cases h
  split at h
  · cases h
  · rename_i h1 h2 h3 h4
    rw [if_neg h1, if_neg h2, if_neg h3, if_neg h4]
    dsimp only
    refine ⟨?_, by omega⟩
    rw [List.length_drop, List.length_take]; omega
theorem readAll_fuel : ∀ (k k' : Nat) (W : LogS) (s : List UInt8), s.length ≤ k → s.length ≤ k' → readAll k W s = readAll k' W s := by
  intro k
  induction k with
  | zero =>
    intro k' W s h h'
    have : s = [] := List.length_eq_zero_iff.1 (by omega)
    subst this
    cases k' with
    | zero => rfl
    | succ k' => rw [readAll, readAll, if_pos rfl]
  | succ k ih =>
    intro k' W s h h'
    cases k' with
    | zero =>
      have : s = [] := List.length_eq_zero_iff.1 (by omega)
      subst this
      rw [readAll, readAll, if_pos rfl]
    | succ k' =>
      rw [readAll, readAll]
      split
      · rfl
      split
      · rename_i hu
        have := unframe_ok hu
        split
        · exact ih _ _ _ (by rw [List.length_drop]; omega) (by rw [List.length_drop]; omega)
        · rfl
      · rfl
def readE (W : LogS) (s : List UInt8) : LogS × List UInt8 × Int := readAll s.length W s
theorem readE_nil (W : LogS) : readE W [] = (W, [], 0) := rfl
theorem readE_ok {W : LogS} {s : List UInt8} {r : Rec} (hu : (unframe s).1 = 0) (hr : toRec (unframe s).2.1 = some r) : readE W s = readE ((W.recd r).grew (unframe s).2.2) (s.drop (unframe s).2.2) := by
  have h1 := unframe_ok hu
  obtain ⟨k, hk⟩ : ∃ k, s.length = k + 1 := ⟨s.length - 1, by omega⟩
  have hne : s ≠ [] := by rintro rfl; simp at hk
  unfold readE
  rw [hk, readAll, if_neg hne, if_pos hu, hr]
  dsimp only
  exact readAll_fuel _ _ _ _ (by rw [List.length_drop]; omega) (by rw [List.length_drop]; omega)
theorem readE_bad {W : LogS} {s : List UInt8} (hne : s ≠ []) (h : (unframe s).1 ≠ 0 ∨ toRec (unframe s).2.1 = none) : readE W s = (W, s, if (unframe s).1 = 9 then 9 else 8) := by
  obtain ⟨k, hk⟩ : ∃ k, s.length = k + 1 := ⟨s.length - 1, by have := List.length_pos_iff.2 hne; omega⟩
  unfold readE
  rw [hk, readAll, if_neg hne]
  by_cases hu : (unframe s).1 = 0
  · have h2 : toRec (unframe s).2.1 = none := by rcases h with h | h; exact absurd hu h; exact h
    rw [if_pos hu, h2]
    dsimp only
    rw [if_neg (by rw [hu]; decide)]
  · rw [if_neg hu]
theorem toRec_in {s : List UInt8} {e : Ent} (h : toRec s = some (.ent e)) : e.In ∧ 0 < e.index ∧ e.right = true := by
  unfold toRec at h
  split at h
  · cases h
  split at h
  · split at h <;> cases h
  split at h
  · split at h
    · rename_i i t k r h1
      split at h
      · split at h
        · cases h
          rename_i hr
          have hi := (toInts_in h1).2
          refine ⟨⟨(hi i (by simp)).2, (hi t (by simp)).2, (hi k (by simp)).2⟩, ?_, hr⟩
          simp only [Ent.right, Bool.and_eq_true, decide_eq_true_eq] at hr
          exact hr.1.1.1
        · cases h
      · cases h
    · cases h
  · split at h <;> cases h
theorem recd_rise {W : LogS} {s : List UInt8} {r : Rec} (h : toRec s = some r) (hW : Rise W.ents) : Rise (W.recd r).ents ∧ (W.recd r).ents.length ≤ W.ents.length + 1 := by
  cases r with
  | hard x => exact ⟨hW, Nat.le_succ _⟩
  | ent e =>
    have he := toRec_in h
    exact ⟨putE_rise hW he.1 he.2.1, putE_len _ _⟩
  | reset => exact ⟨⟨fun i hi => by simp [LogS.recd] at hi, fun e he => by simp [LogS.recd] at he, fun e he => by simp [LogS.recd] at he⟩, Nat.zero_le _⟩
theorem setLast_l8 (S : List Seg) (q : Seg) : (setLast S q).length = S.length := by simp [setLast]
theorem lastS_setL8 {S : List Seg} (h : S ≠ []) (q : Seg) : lastS (setLast S q) = q := by
  obtain ⟨A, p, rfl⟩ := ne_end h
  rw [setLast_end, lastS_end]
theorem recd_segs {W : LogS} (r : Rec) (h : W.segs ≠ []) : (W.recd r).segs ≠ [] ∧ (W.recd r).segs.length = W.segs.length ∧ (lastS (W.recd r).segs).number = (lastS W.segs).number ∧ (lastS (W.recd r).segs).size = (lastS W.segs).size := by
  cases r with
  | hard x => exact ⟨h, rfl, rfl, rfl⟩
  | ent e =>
    have e1 : (W.recd (.ent e)).segs = setLast W.segs { lastS W.segs with top := max (lastS W.segs).top e.index } := rfl
    rw [e1, lastS_setL8 h]
    refine ⟨?_, setLast_l8 _ _, rfl, rfl⟩
    intro hx
    have := congrArg List.length hx
    rw [setLast_l8] at this
    exact h (List.length_eq_zero_iff.1 this)
  | reset => exact ⟨h, rfl, rfl, rfl⟩
theorem grew_segs {W : LogS} (n : Nat) (h : W.segs ≠ []) : (W.grew n).segs ≠ [] ∧ (W.grew n).segs.length = W.segs.length ∧ (lastS (W.grew n).segs).number = (lastS W.segs).number ∧ (lastS (W.grew n).segs).size = (lastS W.segs).size + n := by
  have e1 : (W.grew n).segs = setLast W.segs { lastS W.segs with size := (lastS W.segs).size + n } := rfl
  rw [e1, lastS_setL8 h]
  refine ⟨?_, setLast_l8 _ _, rfl, rfl⟩
  intro hx
  have := congrArg List.length hx
  rw [setLast_l8] at this
  exact h (List.length_eq_zero_iff.1 this)
/-- The last segment read off the disk: the error, the log, the disk. -/
def LogS.readSeg (W : LogS) (D : DiskS) (last : Bool) : Int × LogS × DiskS :=
  if (D.find (segFile (lastS W.segs))).2 ≠ 0 then ((D.find (segFile (lastS W.segs))).2, W, D)
  else if (readE W (D.find (segFile (lastS W.segs))).1.bytes).2.1 = [] then (0, (readE W (D.find (segFile (lastS W.segs))).1.bytes).1, D)
  else if last = false then ((readE W (D.find (segFile (lastS W.segs))).1.bytes).2.2, (readE W (D.find (segFile (lastS W.segs))).1.bytes).1, D)
  else if (D.truncate (segFile (lastS W.segs)) (lastS (readE W (D.find (segFile (lastS W.segs))).1.bytes).1.segs).size).1 ≠ 0 then ((D.truncate (segFile (lastS W.segs)) (lastS (readE W (D.find (segFile (lastS W.segs))).1.bytes).1.segs).size).1, (readE W (D.find (segFile (lastS W.segs))).1.bytes).1, (D.truncate (segFile (lastS W.segs)) (lastS (readE W (D.find (segFile (lastS W.segs))).1.bytes).1.segs).size).2)
  else (((D.truncate (segFile (lastS W.segs)) (lastS (readE W (D.find (segFile (lastS W.segs))).1.bytes).1.segs).size).2.sync (segFile (lastS W.segs))).1, (readE W (D.find (segFile (lastS W.segs))).1.bytes).1, ((D.truncate (segFile (lastS W.segs)) (lastS (readE W (D.find (segFile (lastS W.segs))).1.bytes).1.segs).size).2.sync (segFile (lastS W.segs))).2)
end Go.Proofs.YtaeefjcbmkiiaaaGreatDoor
/- A log opened on a disk with segments: plain. -/
namespace Go.Proofs.YtaeefjcbmkiiaaaGreatDoor
open Go Sl
set_option linter.unusedVariables false
set_option linter.unusedSimpArgs false
def numOf (s : Nm) : Int := (snVal s : Int)
theorem numOf_seg {n : Nat} (h : n < 100) : numOf (segName n) = n := by
  rw [segName_sn h]; unfold numOf; rw [snVal_all ⟨n, h⟩]
def leZ : Int → Int → Bool := fun x y => decide (x ≤ y)
def segNums (D : DiskS) : List Int := ((sortN (D.files.map (·.1))).map numOf).mergeSort leZ
def LogS.push (W : LogS) (n : Int) : LogS := { W with segs := W.segs ++ [⟨n, 0, 0⟩] }
/-- Segments read one by one. -/
def openGo : List Int → LogS → DiskS → Int × LogS × DiskS
  | [], W, D => (0, W, D)
  | n :: l, W, D => if ((W.push n).readSeg D (decide (l = []))).1 ≠ 0 then (W.push n).readSeg D (decide (l = [])) else openGo l ((W.push n).readSeg D (decide (l = []))).2.1 ((W.push n).readSeg D (decide (l = []))).2.2
def Named (D : DiskS) : Prop := ∀ p ∈ D.files, ∃ n : Nat, 1 ≤ n ∧ n < 100 ∧ p.1 = segName n

theorem readE_facts : ∀ (k : Nat) (W : LogS) (s : List UInt8), s.length ≤ k → Rise W.ents → W.segs ≠ [] →
    Rise (readE W s).1.ents ∧ (readE W s).1.ents.length ≤ W.ents.length + s.length ∧ (readE W s).1.segs ≠ [] ∧ (readE W s).1.segs.length = W.segs.length := by
  intro k
  induction k with
  | zero =>
    intro W s hk hW hS
    have : s = [] := List.length_eq_zero_iff.1 (by omega)
    subst this
    exact ⟨hW, Nat.le_add_right _ _, hS, rfl⟩
  | succ k ih =>
    intro W s hk hW hS
    by_cases hs : s = []
    · subst hs; exact ⟨hW, Nat.le_add_right _ _, hS, rfl⟩
    by_cases h : (unframe s).1 = 0 ∧ (toRec (unframe s).2.1).isSome
    · obtain ⟨r, hr⟩ := Option.isSome_iff_exists.1 h.2
      have h1 := unframe_ok h.1
      have h2 := recd_rise hr hW
      obtain ⟨g1, g2, g3, g4⟩ := recd_segs r hS
      obtain ⟨j1, j2, j3, j4⟩ := grew_segs (unframe s).2.2 g1
      rw [readE_ok h.1 hr]
      obtain ⟨i1, i2, i3, i4⟩ := ih ((W.recd r).grew (unframe s).2.2) (s.drop (unframe s).2.2) (by rw [List.length_drop]; omega) h2.1 j1
      refine ⟨i1, ?_, i3, by rw [i4, j2, g2]⟩
      have e : ((W.recd r).grew (unframe s).2.2).ents = (W.recd r).ents := rfl
      rw [e, List.length_drop] at i2
      omega
    · rw [readE_bad hs (by
        by_cases h0 : (unframe s).1 = 0
        · right
          cases hx : toRec (unframe s).2.1 with
          | none => rfl
          | some r => exact absurd ⟨h0, by rw [hx]; rfl⟩ h
        · exact .inl h0)]
      exact ⟨hW, Nat.le_add_right _ _, hS, rfl⟩
theorem readSeg_facts {W : LogS} {D : DiskS} {last : Bool} (hD : D.Ok) (hW : Rise W.ents) (hS : W.segs ≠ []) :
    Rise (W.readSeg D last).2.1.ents ∧ (W.readSeg D last).2.1.ents.length ≤ W.ents.length + (D.find (segFile (lastS W.segs))).1.bytes.length ∧ (W.readSeg D last).2.1.segs.length = W.segs.length ∧ (W.readSeg D last).2.2.Ok ∧ (last = false → (W.readSeg D last).2.2 = D) := by
  obtain ⟨f1, f2, f3, f4⟩ := readE_facts _ W (D.find (segFile (lastS W.segs))).1.bytes (Nat.le_refl _) hW hS
  unfold LogS.readSeg
  split
  · exact ⟨hW, Nat.le_add_right _ _, rfl, hD, fun _ => rfl⟩
  split
  · exact ⟨f1, f2, f4, hD, fun _ => rfl⟩
  split
  · exact ⟨f1, f2, f4, hD, fun _ => rfl⟩
  · rename_i hl
    split
    · exact ⟨f1, f2, f4, hD.truncate _ _, fun h => absurd h hl⟩
    · exact ⟨f1, f2, f4, (hD.truncate _ _).sync _, fun h => absurd h hl⟩
def flen (D : DiskS) (n : Int) : Nat := (D.find (segName n.toNat)).1.bytes.length
theorem assoc_of_nodup {l : List (Nm × FileS)} (h : (l.map (·.1)).Nodup) {p : Nm × FileS} (hp : p ∈ l) : assoc l p.1 = some p.2 := by
  induction l with
  | nil => cases hp
  | cons q l ih =>
    obtain ⟨k, f⟩ := q
    rw [List.map_cons, List.nodup_cons] at h
    rcases List.mem_cons.1 hp with rfl | hp
    · simp [assoc]
    · have hne : ¬ p.1 = k := fun e => h.1 (by rw [show (k, f).1 = p.1 from e.symm]; exact List.mem_map.2 ⟨p, hp, rfl⟩)
      rw [assoc, if_neg hne]
      exact ih h.2 hp
theorem segNums_perm (D : DiskS) : (segNums D).Perm ((D.files.map (·.1)).map numOf) :=
  (List.mergeSort_perm _ _).trans ((List.mergeSort_perm _ _).map _)
theorem segNums_len (D : DiskS) : (segNums D).length = D.files.length := by rw [(segNums_perm D).length_eq]; simp
theorem segNums_mem {D : DiskS} (hN : Named D) {n : Int} (h : n ∈ segNums D) : 1 ≤ n ∧ n < 100 := by
  have h1 := (segNums_perm D).mem_iff.1 h
  rw [List.map_map] at h1
  obtain ⟨p, hp, rfl⟩ := List.mem_map.1 h1
  obtain ⟨k, k1, k2, k3⟩ := hN p hp
  show 1 ≤ numOf p.1 ∧ numOf p.1 < 100
  rw [k3, numOf_seg k2]; omega
theorem sum_perm {a b : List Nat} (h : a.Perm b) : a.sum = b.sum := h.sum_nat
theorem flen_sum {D : DiskS} (hD : D.Ok) (hN : Named D) : ((segNums D).map (flen D)).sum ≤ DiskS.total D.files := by
  rw [((segNums_perm D).map (flen D)).sum_nat, List.map_map, List.map_map]
  unfold DiskS.total
  have key : ∀ l : List (Nm × FileS), (∀ p ∈ l, p ∈ D.files) → (l.map ((flen D ∘ numOf) ∘ fun x => x.1)).sum ≤ (l.map fun p => p.2.bytes.length).sum := by
    intro l
    induction l with
    | nil => intro _; exact Nat.le_refl _
    | cons p l ih =>
      intro h
      rw [List.map_cons, List.map_cons, List.sum_cons, List.sum_cons]
      refine Nat.add_le_add ?_ (ih fun q hq => h q (List.mem_cons_of_mem _ hq))
      have hp := h p (List.mem_cons_self ..)
      obtain ⟨k, k1, k2, k3⟩ := hN p hp
      show flen D (numOf p.1) ≤ _
      have e : segName (numOf p.1).toNat = p.1 := by rw [k3, numOf_seg k2]; rfl
      unfold flen
      rw [e]
      unfold DiskS.find
      split
      · exact Nat.zero_le _
      · rw [assoc_of_nodup hD.nd hp]; exact Nat.le_refl _
  exact key D.files fun p hp => hp
end Go.Proofs.YtaeefjcbmkiiaaaGreatDoor
/- What a log's segments hold on the disk; opened anew it is the log: plain. -/
namespace Go.Proofs.YtaeefjcbmkiiaaaGreatDoor
open Go Sl
set_option linter.unusedVariables false
set_option linter.unusedSimpArgs false
set_option maxHeartbeats 1000000
/-- Names and bytes. -/
def cont (D : DiskS) : List (Nm × List UInt8) := D.files.map fun p => (p.1, p.2.bytes)
theorem aput_map {κ α β : Type} [DecidableEq κ] (f : α → β) (l : List (κ × α)) (k : κ) (x : α) : (aput l k x).map (fun p => (p.1, f p.2)) = aput (l.map fun p => (p.1, f p.2)) k (f x) := by
  induction l with
  | nil => rfl
  | cons p l ih =>
    obtain ⟨q, y⟩ := p
    rw [aput, List.map_cons, aput]
    split
    · rfl
    · rw [List.map_cons, ih]
theorem assoc_mapv {κ α β : Type} [DecidableEq κ] (f : α → β) (l : List (κ × α)) (k : κ) : assoc (l.map fun p => (p.1, f p.2)) k = (assoc l k).map f := by
  induction l with
  | nil => rfl
  | cons p l ih =>
    obtain ⟨q, y⟩ := p
    rw [List.map_cons, assoc, assoc]
    split
    · rfl
    · exact ih
theorem aput_self {κ α : Type} [DecidableEq κ] {l : List (κ × α)} {k : κ} {x : α} (h : assoc l k = some x) : aput l k x = l := by
  induction l with
  | nil => cases h
  | cons p l ih =>
    obtain ⟨q, y⟩ := p
    rw [assoc] at h
    rw [aput]
    split
    · rename_i e; rw [if_pos e] at h; cases h; rw [e]
    · rename_i e; rw [if_neg e] at h; rw [ih h]
theorem find_cont {D : DiskS} (hd : D.dead = false) (n : Nm) : (D.find n).1.bytes = (assoc (cont D) n).getD [] := by
  unfold cont
  rw [assoc_mapv (f := FileS.bytes)]
  unfold DiskS.find
  rw [if_neg (by rw [hd]; simp)]
  cases assoc D.files n <;> rfl
theorem append_cont {D : DiskS} {n : Nm} {data : List UInt8} (h : (D.append n data).1 = 0) : cont (D.append n data).2 = aput (cont D) n ((D.find n).1.bytes ++ data) ∧ (D.append n data).2.dead = D.dead := by
  unfold DiskS.append at h ⊢
  split at h
  · cases h
  split at h
  · cases h
  split at h
  · cases h
  split at h
  · cases h
  split at h
  · rename_i h1; exact absurd h h1
  · rename_i h1 h2 h3 h4 h5
    rw [if_neg h1, if_neg h2, if_neg h3, if_neg h4, if_neg h5]
    refine ⟨aput_map FileS.bytes _ _ _, ?_⟩
    have : ¬ D.fuse = 0 := fun e => h5 (by unfold DiskS.turn; rw [if_pos e]; simp)
    show (if D.fuse = 0 then true else D.dead) = D.dead
    rw [if_neg this]
theorem sync_cont (D : DiskS) (n : Nm) : cont (D.sync n).2 = cont D := by
  unfold DiskS.sync DiskS.does
  split
  · rfl
  split
  · rfl
  split
  · rfl
  · rename_i h1 _ _
    have hf : (D.find n).2 = 0 := by simpa using h1
    have ha : assoc D.files n = some (D.find n).1 := by
      unfold DiskS.find at hf ⊢
      split at hf
      · cases hf
      · rename_i hd
        rw [if_neg hd]
        cases hx : assoc D.files n with
        | none => rw [hx] at hf; cases hf
        | some f => rfl
    have e1 := aput_map FileS.bytes D.files n ⟨(D.find n).1.bytes, ((D.find n).1.bytes.length : Int)⟩
    refine e1.trans (aput_self ?_)
    rw [assoc_mapv, ha]; rfl
/-- How many bytes and which top records make. -/
def topR (t : Int) : Rec → Int
  | .ent e => max t e.index
  | _ => t
def topOf (l : List Rec) : Int := l.foldl topR 0
abbrev GL := List (Seg × List Rec)
def foldOf (G : GL) : Hrd × List Ent := (G.flatMap (·.2)).foldl Rec.app (⟨0, 0⟩, [])
structure Lays (S : List Seg) (D : DiskS) (G : GL) : Prop where
  segs : S = G.map (·.1)
  cont : cont D = G.map fun g => (segFile g.1, bytesOf g.2)
  good : ∀ g ∈ G, ∀ r ∈ g.2, r.Good
  head : ∀ g ∈ G, ∃ h t, g.2 = .hard h :: t
  tops : ∀ g ∈ G, g.1.top = topOf g.2
  size : ∀ g ∈ G, g.1.size = ((bytesOf g.2).length : Int)
  inc : (G.map (·.1.number)).Pairwise (· < ·)
  rng : ∀ g ∈ G, 1 ≤ g.1.number ∧ g.1.number < 100
theorem grew_end {W : LogS} {X : List Seg} {q : Seg} (n : Nat) (h : W.segs = X ++ [q]) : (W.grew n).segs = X ++ [⟨q.number, q.size + n, q.top⟩] := by
  show setLast W.segs _ = _; rw [h, lastS_end, setLast_end]
theorem recd_end {W : LogS} {X : List Seg} {q : Seg} (r : Rec) (h : W.segs = X ++ [q]) : (W.recd r).segs = X ++ [⟨q.number, q.size, topR q.top r⟩] := by
  cases r with
  | hard x => exact h
  | ent e => show setLast W.segs _ = _; rw [h, lastS_end, setLast_end]; rfl
  | reset => exact h
theorem steps_segs : ∀ (l : List Rec) (W : LogS) (X : List Seg) (q : Seg), W.segs = X ++ [q] → (l.foldl LogS.step W).segs = X ++ [⟨q.number, q.size + (bytesOf l).length, l.foldl topR q.top⟩]
  | [], W, X, q, h => by
    rw [List.foldl_nil, h]; simp [bytesOf, texts, frames]
  | r :: l, W, X, q, h => by
    have h1 : (W.step r).segs = X ++ [⟨q.number, q.size + (8 + r.text.length : Nat), topR q.top r⟩] := grew_end _ (recd_end r h)
    rw [List.foldl_cons, steps_segs l _ _ _ h1, bytesOf_cons, List.length_append, frame_length]
    congr 2
    show (⟨_, _, _⟩ : Seg) = ⟨_, _, _⟩
    congr 1
    simp; omega
theorem Lays.read {S : List Seg} {D : DiskS} {G : GL} (h : Lays S D G) (hd : D.dead = false) (hnd : (D.files.map (·.1)).Nodup) {g : Seg × List Rec} (hg : g ∈ G) : D.find (segFile g.1) = ((D.find (segFile g.1)).1, 0) ∧ (D.find (segFile g.1)).1.bytes = bytesOf g.2 := by
  have hm : (segFile g.1, bytesOf g.2) ∈ Go.Proofs.YtaeefjcbmkiiaaaGreatDoor.cont D := by rw [h.cont]; exact List.mem_map.2 ⟨g, hg, rfl⟩
  unfold Go.Proofs.YtaeefjcbmkiiaaaGreatDoor.cont at hm
  obtain ⟨p, hp, he⟩ := List.mem_map.1 hm
  simp only [Prod.mk.injEq] at he
  have ha := assoc_of_nodup hnd hp
  rw [he.1] at ha
  have : D.find (segFile g.1) = (p.2, 0) := by unfold DiskS.find; rw [if_neg (by rw [hd]; simp), ha]
  rw [this]
  exact ⟨rfl, he.2⟩
theorem open_go {S : List Seg} {D : DiskS} {G : GL} (h : Lays S D G) (hd : D.dead = false) (hnd : (D.files.map (·.1)).Nodup) : ∀ (G2 G1 : GL) (W : LogS), G = G1 ++ G2 → W.segs = G1.map (·.1) → (W.hard, W.ents) = foldOf G1 →
    openGo (G2.map (·.1.number)) W D = (0, ⟨(foldOf G).1, (foldOf G).2, G.map (·.1)⟩, D)
  | [], G1, W, hG, hS, hf => by
    rw [List.append_nil] at hG
    subst hG
    rw [← hf, ← hS]; rfl
  | g :: G2, G1, W, hG, hS, hf => by
    have hg : g ∈ G := by rw [hG]; simp
    have hlast : lastS (W.push g.1.number).segs = ⟨g.1.number, 0, 0⟩ := lastS_end _ _
    have hfile : segFile (lastS (W.push g.1.number).segs) = segFile g.1 := by rw [hlast]; rfl
    obtain ⟨r1, r2⟩ := h.read hd hnd hg
    have hread : readE (W.push g.1.number) (bytesOf g.2) = (g.2.foldl LogS.step (W.push g.1.number), [], 0) := readAll_bytes g.2 _ _ (h.good g hg) (Nat.le_refl _)
    have hseg : ∀ last, (W.push g.1.number).readSeg D last = (0, g.2.foldl LogS.step (W.push g.1.number), D) := fun last => by
      unfold LogS.readSeg
      rw [hfile, r2, hread, if_neg (by rw [r1]; simp), if_pos rfl]
    rw [List.map_cons, openGo, hseg, if_neg (by simp)]
    refine open_go h hd hnd G2 (G1 ++ [g]) _ (by rw [hG]; simp) ?_ ?_
    · dsimp only
      rw [steps_segs g.2 (W.push g.1.number) W.segs ⟨g.1.number, 0, 0⟩ rfl, hS, List.map_append]
      congr 1
      have h1 := h.tops g hg
      have h2 := h.size g hg
      show [_] = [g.1]
      congr 1
      obtain ⟨⟨n, z, t⟩, rs⟩ := g
      dsimp only at h1 h2 ⊢
      rw [h1, h2]; simp [topOf]
    · dsimp only
      rw [steps_he]
      unfold foldOf at hf ⊢
      rw [List.flatMap_append, List.foldl_append, ← hf]
      simp [LogS.push]
theorem Lays.named {S : List Seg} {D : DiskS} {G : GL} (h : Lays S D G) : Named D := by
  intro p hp
  have hm : (p.1, p.2.bytes) ∈ Go.Proofs.YtaeefjcbmkiiaaaGreatDoor.cont D := List.mem_map.2 ⟨p, hp, rfl⟩
  rw [h.cont] at hm
  obtain ⟨g, hg, he⟩ := List.mem_map.1 hm
  have hr := h.rng g hg
  refine ⟨g.1.number.toNat, by omega, by omega, ?_⟩
  exact (congrArg Prod.fst he).symm
theorem Lays.nums {S : List Seg} {D : DiskS} {G : GL} (h : Lays S D G) : segNums D = G.map (·.1.number) := by
  have e1 : (D.files.map (·.1)).map numOf = G.map (·.1.number) := by
    have : D.files.map (·.1) = (Go.Proofs.YtaeefjcbmkiiaaaGreatDoor.cont D).map (·.1) := by unfold Go.Proofs.YtaeefjcbmkiiaaaGreatDoor.cont; rw [List.map_map]; rfl
    rw [this, h.cont, List.map_map, List.map_map]
    apply List.map_congr_left
    intro g hg
    have hr := h.rng g hg
    show numOf (segName g.1.number.toNat) = _
    rw [numOf_seg (by omega)]; omega
  have hp := segNums_perm D
  rw [e1] at hp
  refine List.Perm.eq_of_pairwise (le := fun a b => a ≤ b) (fun a b _ _ h1 h2 => by omega) ?_ ?_ hp
  · have tr : ∀ a b c : Int, leZ a b = true → leZ b c = true → leZ a c = true := fun a b c h1 h2 => by simp only [leZ, decide_eq_true_eq] at *; omega
    have to : ∀ a b : Int, (leZ a b || leZ b a) = true := fun a b => by simp only [leZ, Bool.or_eq_true, decide_eq_true_eq]; omega
    have := List.pairwise_mergeSort tr to ((sortN (D.files.map (·.1))).map numOf)
    exact this.imp fun h => by simpa [leZ] using h
  · exact h.inc.imp fun h => by omega
theorem open_lays {S : List Seg} {D : DiskS} {G : GL} (h : Lays S D G) (hd : D.dead = false) (hnd : (D.files.map (·.1)).Nodup) : openGo (segNums D) ⟨⟨0, 0⟩, [], []⟩ D = (0, ⟨(foldOf G).1, (foldOf G).2, S⟩, D) := by
  rw [h.nums, h.segs]
  exact open_go h hd hnd G [] _ rfl rfl rfl
end Go.Proofs.YtaeefjcbmkiiaaaGreatDoor
/- Saves and resets keep what lies on the disk: plain. -/
namespace Go.Proofs.YtaeefjcbmkiiaaaGreatDoor
open Go Sl
set_option linter.unusedVariables false
set_option linter.unusedSimpArgs false
set_option maxHeartbeats 1000000
def toldR (S : List Seg) (h : Hrd) (tell : Bool) (rs : List Rec) : List Rec := if tell = true ∨ (lastS S).size = 0 then .hard h :: rs else rs
theorem layT_bytes (S : List Seg) (h : Hrd) (tell : Bool) (rs : List Rec) : layT S h tell (texts rs) = bytesOf (toldR S h tell rs) := by
  unfold layT told toldR bytesOf
  split <;> rfl
theorem lay_cont {S : List Seg} {D : DiskS} {h : Hrd} {tell : Bool} {ps : List (List UInt8)} (hE : layE S D h tell ps = 0) : cont (layD S D h tell ps) = aput (cont D) (segFile (lastS S)) ((D.find (segFile (lastS S))).1.bytes ++ layT S h tell ps) ∧ layS S D h tell ps = grown S h tell ps := by
  have h1 : (layA S D h tell ps).1 = 0 := by
    unfold layE at hE
    split at hE
    · exact hE
    · rename_i h; simpa using h
  unfold layD layS
  rw [if_neg (fun h => h h1), if_neg (fun h => h h1)]
  exact ⟨(sync_cont _ _).trans (append_cont h1).1, rfl⟩
theorem mem_num {G : GL} (h : (G.map (·.1.number)).Pairwise (· < ·)) {A : GL} {x : Seg × List Rec} (hG : G = A ++ [x]) : ∀ g ∈ A, g.1.number < x.1.number := by
  subst hG
  rw [List.map_append, List.pairwise_append] at h
  intro g hg
  exact h.2.2 _ (List.mem_map.2 ⟨g, hg, rfl⟩) _ (by simp)
theorem key_notin {A : GL} {q : Seg} (hA : ∀ g ∈ A, g.1.number < q.number) (hr : ∀ g ∈ A, 1 ≤ g.1.number ∧ g.1.number < 100) (hq : q.number < 100) (hq1 : 1 ≤ q.number) {f : Seg × List Rec → List UInt8} : segFile q ∉ (A.map fun g => (segFile g.1, f g)).map (·.1) := by
  intro hm
  rw [List.map_map] at hm
  obtain ⟨g, hg, he⟩ := List.mem_map.1 hm
  have h1 := hA g hg
  have h2 := hr g hg
  have : g.1.number.toNat = q.number.toNat := segName_inj (by omega) (by omega) he
  omega
theorem lay_kept {S0 S : List Seg} {D : DiskS} {G : GL} (hd : D.dead = false) (hnd : (D.files.map (·.1)).Nodup) (hK : Lays S0 D G) (hne : S0 ≠ []) (hg : S = S0 ∨ (S = next S0 ∧ (lastS S0).number < 99)) (h : Hrd) (tell : Bool) (rs : List Rec) (hgood : ∀ r ∈ toldR S h tell rs, r.Good) (hE : layE S D h tell (texts rs) = 0) :
    ∃ (A : GL) (q : Seg) (R : List Rec), Lays (A.map (·.1) ++ [⟨q.number, q.size, topOf R⟩]) (layD S D h tell (texts rs)) (A ++ [(⟨q.number, q.size, topOf R⟩, R)]) ∧ layS S D h tell (texts rs) = A.map (·.1) ++ [q] ∧ foldOf (A ++ [(⟨q.number, q.size, topOf R⟩, R)]) = (toldR S h tell rs).foldl Rec.app (foldOf G) ∧ topOf R = (toldR S h tell rs).foldl topR q.top := by
  obtain ⟨hc, hl⟩ := lay_cont hE
  rw [layT_bytes] at hc
  have hGne : G ≠ [] := by rintro rfl; exact hne (by rw [hK.segs]; rfl)
  obtain ⟨T, hT⟩ : ∃ T, T = toldR S h tell rs := ⟨_, rfl⟩
  have hTh : (lastS S).size = 0 → ∃ t, T = .hard h :: t := fun h0 => ⟨rs, by rw [hT]; exact if_pos (.inr h0)⟩
  have key : ∃ (A : GL) (q : Seg) (R : List Rec), S = A.map (·.1) ++ [q] ∧ (∀ g ∈ A, g ∈ G) ∧ (∀ r ∈ R, r.Good) ∧ ((∃ h t, R = .hard h :: t) ∨ (R = [] ∧ q.size = 0)) ∧ q.top = topOf R ∧ q.size = ((bytesOf R).length : Int) ∧ ((A ++ [(q, R)]).map (·.1.number)).Pairwise (· < ·) ∧ (1 ≤ q.number ∧ q.number < 100) ∧ foldOf (A ++ [(q, R)]) = foldOf G ∧ (D.find (segFile q)).1.bytes = bytesOf R ∧ ∀ X, aput (cont D) (segFile q) X = (A.map fun g => (segFile g.1, bytesOf g.2)) ++ [(segFile q, X)] := by
    obtain ⟨A, x, rfl⟩ := ne_end hGne
    obtain ⟨q, R⟩ := x
    have hx : (q, R) ∈ A ++ [(q, R)] := by simp
    have hqr := hK.rng _ hx
    have hAn := mem_num hK.inc rfl
    have hS0 : S0 = A.map (·.1) ++ [q] := by rw [hK.segs]; simp
    rcases hg with rfl | ⟨rfl, h99⟩
    · refine ⟨A, q, R, hS0, fun g hg => by simp [hg], hK.good _ hx, .inl (hK.head _ hx), hK.tops _ hx, hK.size _ hx, hK.inc, hqr, rfl, (hK.read hd hnd hx).2, fun X => ?_⟩
      rw [hK.cont, List.map_append, List.map_cons, List.map_nil]
      exact aput_end _ _ (key_notin hAn (fun g hg => hK.rng g (by simp [hg])) hqr.2 hqr.1)
    · have hlast : lastS S0 = q := by rw [hS0, lastS_end]
      rw [hlast] at h99
      have hall : ∀ g ∈ A ++ [(q, R)], g.1.number < q.number + 1 := fun g hg => by
        rcases List.mem_append.1 hg with hg | hg
        · have := hAn g hg; dsimp only at this; omega
        · rw [List.mem_singleton.1 hg]; dsimp only; omega
      have hnot : segFile ⟨q.number + 1, 0, 0⟩ ∉ (cont D).map (·.1) := by
        rw [hK.cont]
        exact key_notin (q := ⟨q.number + 1, 0, 0⟩) hall hK.rng (by dsimp only; omega) (by dsimp only at hqr ⊢; omega)
      refine ⟨A ++ [(q, R)], ⟨q.number + 1, 0, 0⟩, [], ?_, fun g hg => hg, fun r hr => (by cases hr), .inr ⟨rfl, rfl⟩, rfl, rfl, ?_, ⟨by dsimp only at hqr ⊢; omega, by dsimp only; omega⟩, ?_, ?_, fun X => ?_⟩
      · unfold next; rw [hlast, hS0, List.map_append]; rfl
      · rw [List.map_append, List.pairwise_append]
        refine ⟨hK.inc, by simp, fun a ha b hb => ?_⟩
        obtain ⟨g, hg, rfl⟩ := List.mem_map.1 ha
        simp only [List.map_cons, List.map_nil, List.mem_singleton] at hb
        rw [hb]; exact hall g hg
      · unfold foldOf; rw [List.flatMap_append]; simp
      · rw [find_cont hd, assoc_no hnot]; rfl
      · rw [aput_no _ hnot, hK.cont]
  obtain ⟨A, q, R, k1, k2, k3, k4, k5, k6, k7, k8, k9, k10, k11⟩ := key
  have hlast : lastS S = q := by rw [k1, lastS_end]
  have hz : (bytesOf (R ++ T)).length = (bytesOf R).length + (bytesOf T).length := by rw [bytesOf_append, List.length_append]
  rw [hlast, k10, k11, ← hT, ← bytesOf_append] at hc
  have hgr : grown S h tell (texts rs) = A.map (·.1) ++ [⟨q.number, ((bytesOf (R ++ T)).length : Int), q.top⟩] := by
    unfold grown
    rw [layT_bytes, ← hT, hlast, k1, setLast_end, hz, k6]
    simp
  refine ⟨A, ⟨q.number, ((bytesOf (R ++ T)).length : Int), q.top⟩, R ++ T, { segs := by simp, cont := ?_, good := fun g hg => ?_, head := fun g hg => ?_, tops := fun g hg => ?_, size := fun g hg => ?_, inc := ?_, rng := fun g hg => ?_ }, by rw [hl, hgr], ?_, ?_⟩
  · rw [hc, List.map_append]; rfl
  · rcases List.mem_append.1 hg with hg | hg
    · exact hK.good g (k2 g hg)
    · rw [List.mem_singleton.1 hg]
      intro r hr
      rcases List.mem_append.1 hr with hr | hr
      · exact k3 r hr
      · exact hgood r (by rw [← hT]; exact hr)
  · rcases List.mem_append.1 hg with hg | hg
    · exact hK.head g (k2 g hg)
    · rw [List.mem_singleton.1 hg]
      rcases k4 with ⟨x, t, rfl⟩ | ⟨rfl, h0⟩
      · exact ⟨x, t ++ T, rfl⟩
      · obtain ⟨t, ht⟩ := hTh (by rw [hlast]; exact h0)
        exact ⟨h, t, by rw [ht]; rfl⟩
  · rcases List.mem_append.1 hg with hg | hg
    · exact hK.tops g (k2 g hg)
    · rw [List.mem_singleton.1 hg]
  · rcases List.mem_append.1 hg with hg | hg
    · exact hK.size g (k2 g hg)
    · rw [List.mem_singleton.1 hg]
  · rw [List.map_append] at k7 ⊢; exact k7
  · rcases List.mem_append.1 hg with hg | hg
    · exact hK.rng g (k2 g hg)
    · rw [List.mem_singleton.1 hg]; exact k8
  · rw [← k9, ← hT]
    unfold foldOf
    rw [List.flatMap_append, List.flatMap_append]
    simp [List.foldl_append]
  · rw [← hT, k5]
    unfold topOf
    rw [List.foldl_append]
/-- Entries put behind one another: the last segment's top. -/
theorem puts_segs : ∀ (l : List Ent) (W : LogS) (X : List Seg) (q : Seg), W.segs = X ++ [q] → (puts W l).segs = X ++ [⟨q.number, q.size, (l.map Rec.ent).foldl topR q.top⟩]
  | [], W, X, q, h => h
  | e :: l, W, X, q, h => puts_segs l (W.put e) X ⟨q.number, q.size, max q.top e.index⟩ (recd_end (.ent e) h)
theorem puts_ents : ∀ (l : List Ent) (W : LogS), (puts W l).ents = l.foldl putE W.ents
  | [], W => rfl
  | e :: l, W => puts_ents l (W.put e)
theorem app_ents : ∀ (l : List Ent) (x : Hrd × List Ent), (l.map Rec.ent).foldl Rec.app x = (x.1, l.foldl putE x.2)
  | [], x => rfl
  | e :: l, x => app_ents l (x.1, putE x.2 e)
theorem toldR_app (S : List Seg) (h h0 : Hrd) (rs : List Rec) (E : List Ent) (tell : Bool) (ht : tell = false → h = h0) : (toldR S h tell rs).foldl Rec.app (h0, E) = rs.foldl Rec.app (h, E) := by
  unfold toldR
  split
  · rfl
  · rename_i hx
    simp only [not_or, Bool.not_eq_true] at hx
    rw [ht hx.1]
theorem toldR_top (S : List Seg) (h : Hrd) (rs : List Rec) (tell : Bool) (t : Int) : (toldR S h tell rs).foldl topR t = rs.foldl topR t := by
  unfold toldR; split <;> rfl
structure Kept (W : LogS) (D : DiskS) (G : GL) : Prop where
  lays : Lays W.segs D G
  fold : foldOf G = (W.hard, W.ents)
theorem texts_ents (l : List Ent) : texts (l.map Rec.ent) = l.map entText := by unfold texts; rw [List.map_map]; rfl
theorem toldR_good {S : List Seg} {h : Hrd} {tell : Bool} {rs : List Rec} (hh : (Rec.hard h).Good) (hr : ∀ r ∈ rs, r.Good) : ∀ r ∈ toldR S h tell rs, r.Good := by
  unfold toldR; split
  · intro r hx
    rcases List.mem_cons.1 hx with rfl | hx
    · exact hh
    · exact hr r hx
  · exact hr
theorem save_kept {W : LogS} {D : DiskS} {G : GL} {n : Nat} (hW : Live W D n) (hK : Kept W D G) (h : Hrd) (hh : h.In) (l : List Ent) (hl : ∀ e ∈ l, e.In ∧ e.data.length ≤ 60000) : ∃ G', Kept (W.save D h l).2.1 (W.save D h l).2.2 G' := by
  unfold LogS.save
  split
  · exact ⟨G, hK⟩
  split
  · exact ⟨G, hK⟩
  rename_i h1 h2
  simp only [not_or] at h1
  have hr : ∀ e ∈ l, e.right = true := by
    have := h1.2.2
    rw [Bool.not_eq_true, List.any_eq_false] at this
    intro e he
    have := this e he
    simpa using this
  rcases lay_live hW.sd (begun_how W.segs) h (decide (h ≠ W.hard)) (l.map entText) with ⟨a, b, c, cf⟩ | ⟨a, b, c, d, e⟩
  · rw [a, b, c, if_pos (by decide)]
    have : (if more W.segs then there D W.segs (begun W.segs) else begun W.segs) = W.segs := by
      unfold begun
      split
      · rename_i hm; exact there_new hW.sd (by have := hm.2; omega)
      · rfl
    rw [this]
    exact ⟨G, hK⟩
  · rw [a, if_neg (by decide)]
    have hgood : ∀ r ∈ toldR (begun W.segs) h (decide (h ≠ W.hard)) (l.map Rec.ent), r.Good := toldR_good ⟨hh, by omega, by omega⟩ fun r hx => by
      obtain ⟨e, he, rfl⟩ := List.mem_map.1 hx
      exact ⟨(hl e he).1, hr e he, (hl e he).2⟩
    have hbg : begun W.segs = W.segs ∨ (begun W.segs = next W.segs ∧ (lastS W.segs).number < 99) := by
      have := hW.sd.num_le _ (lastS_mem hW.sd.ne)
      rcases begun_how W.segs with h | h
      · exact .inl h
      · exact .inr ⟨h.1, by omega⟩
    obtain ⟨A, q, R, x1, x2, x3, x4⟩ := lay_kept hW.sd.dead hW.sd.ok.nd hK.lays hW.sd.ne hbg h (decide (h ≠ W.hard)) (l.map Rec.ent) hgood (by rw [texts_ents]; exact a)
    rw [texts_ents] at x1 x2
    rw [x2]
    refine ⟨A ++ [(⟨q.number, q.size, topOf R⟩, R)], ?_, ?_⟩
    · rw [puts_segs l _ (A.map (·.1)) q rfl]
      rw [toldR_top] at x4
      rw [← x4]; exact x1
    · rw [x3, hK.fold, toldR_app _ _ _ _ _ _ (fun hx => by simpa using hx), app_ents]
      rw [puts_ents, puts_hard]
theorem reset_kept {W : LogS} {D : DiskS} {G : GL} {n : Nat} (hW : Live W D n) (hK : Kept W D G) : ∃ G', Kept (W.reset D).2.1 (W.reset D).2.2 G' := by
  unfold LogS.reset
  rcases lay_live hW.sd (.inl rfl) W.hard false [resetText] with ⟨a, b, c, cf⟩ | ⟨a, b, c, d, e⟩
  · rw [a, b, c, if_pos (by decide)]; exact ⟨G, hK⟩
  · rw [a, if_neg (by decide)]
    have hgood : ∀ r ∈ toldR W.segs W.hard false [Rec.reset], r.Good := toldR_good ⟨hW.hin, hW.h0⟩ fun r hx => by rw [List.mem_singleton.1 hx]; trivial
    obtain ⟨A, q, R, x1, x2, x3, x4⟩ := lay_kept hW.sd.dead hW.sd.ok.nd hK.lays hW.sd.ne (.inl rfl) W.hard false [Rec.reset] hgood a
    have e1 : texts [Rec.reset] = [resetText] := rfl
    rw [e1] at x1 x2
    rw [x2]
    refine ⟨A ++ [(⟨q.number, q.size, topOf R⟩, R)], ?_, ?_⟩
    · rw [toldR_top] at x4
      have : topOf R = q.top := x4
      rw [this] at x1 ⊢
      exact x1
    · rw [x3, hK.fold, toldR_app _ _ _ _ _ _ (fun _ => rfl)]; rfl
end Go.Proofs.YtaeefjcbmkiiaaaGreatDoor
/- The codec's reading half, walked: numbers, texts, frames. -/
namespace Go.Proofs.YtaeefjcbmkiiaaaGreatDoor
open Go Sl
attribute [local irreducible] J JR JS RO CR Arr Sat Tr sat blk
set_option linter.unusedVariables false
set_option maxHeartbeats 1000000
set_option maxRecDepth 4000
theorem w64 (n : Nat) (h : n < 18446744073709551616) : IntKind.u64.wrap (n : Int) = (n : Int) := by rw [wrap_u64, Nat.mod_eq_of_lt h]
theorem ti_shr (v : Nat) : ((v : Nat) : Int).fdiv (2 ^ (min (57 : Int).toNat IntKind.u64.bits)) = ((v / 144115188075855872 : Nat) : Int) := shr_nat .u64 v 57 (by decide)
theorem ti_shr1 (v : Nat) : ((v : Nat) : Int).fdiv (2 ^ (min (1 : Int).toNat IntKind.u64.bits)) = ((v / 2 : Nat) : Int) := shr_nat .u64 v 1 (by decide)
theorem ti_shl (v : Nat) (h : ¬ (0 : Int) < ((v / 144115188075855872 : Nat) : Int)) : IntKind.u64.wrap (((v : Nat) : Int) * 2 ^ (min (7 : Int).toNat IntKind.u64.bits)) = ((v * 128 : Nat) : Int) := by
  have e : (2 : Int) ^ (min (7 : Int).toNat IntKind.u64.bits) = ((128 : Nat) : Int) := by decide
  rw [e, ← Int.natCast_mul]; exact w64 _ (by omega)
theorem ti_and (c : UInt8) : IntKind.u8.wrap ((BitVec.ofInt IntKind.u8.bits ((c.toNat : Nat) : Int) &&& BitVec.ofInt IntKind.u8.bits (127 : Int)).toNat : Int) = ((c.toNat % 128 : Nat) : Int) := by
  have h := byte_and c.toNat
  have hc := c.toNat_lt
  rw [Nat.mod_eq_of_lt (by omega)] at h
  rw [h, UInt8.toNat_ofNat']; omega
theorem ti_cv (c : UInt8) : IntKind.u64.wrap ((c.toNat % 128 : Nat) : Int) = ((c.toNat % 128 : Nat) : Int) := w64 _ (by omega)
theorem ti_or (v : Nat) (c : UInt8) (h : ¬ (0 : Int) < ((v / 144115188075855872 : Nat) : Int)) : IntKind.u64.wrap ((BitVec.ofInt IntKind.u64.bits ((v * 128 : Nat) : Int) ||| BitVec.ofInt IntKind.u64.bits ((c.toNat % 128 : Nat) : Int)).toNat : Int) = ((v * 128 + c.toNat % 128 : Nat) : Int) := by
  show IntKind.u64.wrap ((BitVec.ofInt 64 _ ||| BitVec.ofInt 64 _).toNat : Int) = _
  rw [BitVec.ofInt_natCast, BitVec.ofInt_natCast, BitVec.toNat_or, BitVec.toNat_ofNat, BitVec.toNat_ofNat, Nat.mod_eq_of_lt (by omega), Nat.mod_eq_of_lt (by omega)]
  have : v * 128 ||| c.toNat % 128 = v * 128 + c.toNat % 128 := by
    have := Nat.shiftLeft_add_eq_or_of_lt (i := 7) (b := c.toNat % 128) (by omega) v
    rw [Nat.shiftLeft_eq] at this
    exact this.symm
  rw [this]; exact w64 _ (by omega)
theorem ti_half (v : Nat) (h : v < 18446744073709551616) : IntKind.i64.wrap ((v / 2 : Nat) : Int) = ((v / 2 : Nat) : Int) := wrap_in (by omega) (by omega)
theorem ti_one (v : Nat) (h : v < 18446744073709551616) : IntKind.u64.wrap ((BitVec.ofInt IntKind.u64.bits ((v : Nat) : Int) &&& BitVec.ofInt IntKind.u64.bits (1 : Int)).toNat : Int) = ((v % 2 : Nat) : Int) := by
  show IntKind.u64.wrap ((BitVec.ofInt 64 ((v : Nat) : Int) &&& BitVec.ofInt 64 ((1 : Nat) : Int)).toNat : Int) = _
  rw [BitVec.ofInt_natCast, BitVec.ofInt_natCast, BitVec.toNat_and, BitVec.toNat_ofNat, BitVec.toNat_ofNat, Nat.mod_eq_of_lt (by omega), Nat.mod_eq_of_lt (by decide), Nat.and_one_is_mod]
  exact w64 _ (by omega)
theorem ti_par (v : Nat) : IntKind.i64.wrap ((v % 2 : Nat) : Int) = ((v % 2 : Nat) : Int) := wrap_in (by omega) (by omega)
theorem ti_neg (v : Nat) : IntKind.i64.wrap (0 - ((v % 2 : Nat) : Int)) = -((v % 2 : Nat) : Int) := by
  rw [Int.zero_sub]; exact wrap_in (by omega) (by omega)
theorem ti_xor (v : Nat) (h : v < 18446744073709551616) : IntKind.i64.wrap ((BitVec.ofInt IntKind.i64.bits ((v / 2 : Nat) : Int) ^^^ BitVec.ofInt IntKind.i64.bits (-((v % 2 : Nat) : Int))).toNat : Int) = unzig v := by
  show IntKind.i64.wrap ((BitVec.ofInt 64 ((v / 2 : Nat) : Int) ^^^ BitVec.ofInt 64 (-((v % 2 : Nat) : Int))).toNat : Int) = _
  unfold unzig
  rcases Nat.mod_two_eq_zero_or_one v with h0 | h0
  · rw [h0, if_pos rfl]
    show IntKind.i64.wrap ((BitVec.ofInt 64 ((v / 2 : Nat) : Int) ^^^ BitVec.ofInt 64 ((0 : Nat) : Int)).toNat : Int) = _
    rw [BitVec.ofInt_natCast, BitVec.ofInt_natCast, BitVec.toNat_xor, BitVec.toNat_ofNat, BitVec.toNat_ofNat, Nat.mod_eq_of_lt (by omega), Nat.zero_mod, Nat.xor_zero]
    exact wrap_in (by omega) (by omega)
  · rw [h0, if_neg (by decide)]
    have e1 : BitVec.ofInt 64 (-((1 : Nat) : Int)) = BitVec.allOnes 64 := by decide
    rw [e1, BitVec.ofInt_natCast, BitVec.xor_allOnes, BitVec.toNat_not, BitVec.toNat_ofNat, Nat.mod_eq_of_lt (by omega)]
    unfold IntKind.wrap
    simp only [IntKind.bits, IntKind.signed]
    simp
    omega
/-- What a number read comes to, as Go's three results. -/
def intRes : Option (Int × List UInt8) → Value
  | some (n, r) => .tuple #[.int .i64 n, vs r, .bool true]
  | none => .tuple #[.int .i64 0, vs [], .bool false]
theorem toInt_step {i v : Nat} {s : List UInt8} (hi : i < s.length) (h10 : i < 10) (h0 : ¬ (i = 0 ∧ (s.getD i 0).toNat = 128)) (hv : ¬ (0 : Int) < ((v / 144115188075855872 : Nat) : Int)) :
    toIntFrom i v (s.drop i) = if (s.getD i 0).toNat < 128 then some (unzig (v * 128 + (s.getD i 0).toNat % 128), s.drop (i + 1)) else toIntFrom (i + 1) (v * 128 + (s.getD i 0).toNat % 128) (s.drop (i + 1)) := by
  have hd : s.drop i = s.getD i 0 :: s.drop (i + 1) := by
    rw [List.drop_eq_getElem_cons hi, List.getD_eq_getElem?_getD, List.getElem?_eq_getElem hi]; rfl
  rw [hd, toIntFrom, if_neg (by rintro (h | h | h); omega; exact h0 h; omega)]
theorem toInt_stop {i v : Nat} {s : List UInt8} (h : s.length ≤ i ∨ 10 ≤ i ∨ (i = 0 ∧ (s.getD i 0).toNat = 128) ∨ (0 : Int) < ((v / 144115188075855872 : Nat) : Int)) : toIntFrom i v (s.drop i) = none := by
  rcases Nat.lt_or_ge i s.length with hi | hi
  · have hd : s.drop i = s.getD i 0 :: s.drop (i + 1) := by
      rw [List.drop_eq_getElem_cons hi, List.getD_eq_getElem?_getD, List.getElem?_eq_getElem hi]; rfl
    rw [hd, toIntFrom, if_pos]
    rcases h with h | h | h | h
    · omega
    · exact .inl h
    · exact .inr (.inl h)
    · exact .inr (.inr (by omega))
  · rw [List.drop_eq_nil_of_le hi, toIntFrom]
theorem toInt_tr (s : List UInt8) (hs : s.length ≤ 9223372036854775807) : Tr Tryz.prog 143 [vs s] [] fun r Γ => r = intRes (toInt s) ∧ Γ = [] := by
  refine Tr_of_J Tryz.func143 follows rfl Tryz.ntmps143 (by simp) fun B F => ?_
  repeat' (first | refine mv ?_ | refine asn ?_ | refine jn ?_ | refine nl ?_ | refine sq ?_ | refine rg ?_ | refine lnb ?_ | refine lls rfl ?_ | refine ad ?_ | refine lss ?_ | refine eql ?_ | refine gtr ?_ | refine p1 ?_ | refine p0 ?_ | refine sk2 ?_ | refine kp ?_ | refine ct ?_ | refine cf ?_ | (refine cd (fun hc => ?_) (fun hc => ?_) <;> try (exfalso; omega)) | (refine cn (fun hc => ?_) (fun hc => ?_) <;> try (exfalso; omega)) | refine bl ?_ | refine ib ?_ | refine xt ?_ | refine cc ?_ | refine ixb ?_ | refine slb ?_ | refine slbl ?_ | refine slbh ?_ | refine cv ?_ | refine mn ?_ | refine af_ ?_ | (refine gd (fun hc => ?_) (fun hc => ?_) <;> try (exfalso; omega)) | (refine gn (fun hc => ?_) (fun hc => ?_) <;> try (exfalso; omega)) | refine aw ?_ | refine ng ?_ | refine sli rfl ?_ | refine slil rfl ?_ | refine slih rfl ?_ | refine cb (fun hc => ?_) (fun hc => ?_) | refine gs (fun hc => ?_) (fun hc => ?_) | refine J_draw (id := 10) [(0, true, []), (1, true, []), (2, true, []), (3, true, []), (4, true, []), (5, true, []), (6, true, []), (7, true, []), (8, true, []), (9, true, []), (10, true, []), (11, true, []), (12, true, []), (13, true, []), (14, true, [])] (by kernel_rfl) ?_ | fail)
  refine lp (α := Nat × Int × Nat) (fun y => [(0, vs s), (5, .int .u64 y.2.2), (10, .int .i64 (min (s.length : Int) 10)), (11, .int .i64 y.2.1)]) (fun y => []) (fun y => y.2.1 = (y.1 : Int) ∧ y.2.2 < 18446744073709551616 ∧ toInt s = toIntFrom y.1 y.2.2 (s.drop y.1) ∧ (y.1 : Int) ≤ min (s.length : Int) 10) (fun y => 10 - y.1) (0, 0, 0) ?_ ⟨rfl, by decide, rfl, by dsimp only; omega⟩
  rintro ⟨i, n, v⟩ ⟨hn, hv, ht, hi⟩ again
  dsimp only at hn hv ht hi again ⊢
  subst hn
  repeat' (first | refine shr ?_ (ti_shr v) | refine shl ?_ (ti_shl v (by assumption)) | refine band ?_ (ti_and (s.getD (i : Int).toNat 0)) | refine cvr ?_ (ti_cv (s.getD (i : Int).toNat 0)) | refine bor ?_ (ti_or v (s.getD (i : Int).toNat 0) (by assumption)) | refine mv ?_ | refine asn ?_ | refine jn ?_ | refine nl ?_ | refine sq ?_ | refine rg ?_ | refine lnb ?_ | refine lls rfl ?_ | refine ad ?_ | refine lss ?_ | refine eql ?_ | refine gtr ?_ | refine p1 ?_ | refine p0 ?_ | refine sk2 ?_ | refine kp ?_ | refine ct ?_ | refine cf ?_ | (refine cd (fun hc => ?_) (fun hc => ?_) <;> try (exfalso; omega)) | (refine cn (fun hc => ?_) (fun hc => ?_) <;> try (exfalso; omega)) | refine bl ?_ | refine ib ?_ | refine xt ?_ | refine cc ?_ | refine ixb ?_ | refine slb ?_ | refine slbl ?_ | refine slbh ?_ | refine cv ?_ | refine mn ?_ | refine af_ ?_ | (refine gd (fun hc => ?_) (fun hc => ?_) <;> try (exfalso; omega)) | (refine gn (fun hc => ?_) (fun hc => ?_) <;> try (exfalso; omega)) | refine aw ?_ | refine ng ?_ | refine sli rfl ?_ | refine slil rfl ?_ | refine slih rfl ?_ | refine cb (fun hc => ?_) (fun hc => ?_) | refine gs (fun hc => ?_) (fun hc => ?_) | refine J_draw (id := 10) [(0, true, []), (1, true, []), (2, true, []), (3, true, []), (4, true, []), (5, true, []), (6, true, []), (7, true, []), (8, true, []), (9, true, []), (10, true, []), (11, true, []), (12, true, []), (13, true, []), (14, true, [])] (by kernel_rfl) ?_ | fail)
  all_goals first
    | (have e : toInt s = none := (by
         rw [ht]
         apply toInt_stop
         first
           | exact .inr (.inr (.inr (by assumption)))
           | (refine .inr (.inr (.inl ⟨(by omega), ?_⟩))
              have h : (((s.getD (i : Int).toNat 0).toNat : Nat) : Int) = 128 := (by assumption)
              show (s.getD (i : Int).toNat 0).toNat = 128
              omega)
           | omega)
       rw [e]
       refine rt ?_
       exact ⟨_, ⟨rfl, rfl⟩, _, by repeat constructor⟩)
    | skip
  all_goals
    have hil : i < s.length := by omega
    have hv0 : ¬ (0 : Int) < ((v / 144115188075855872 : Nat) : Int) := by assumption
    have hc0 : ¬ (i = 0 ∧ (s.getD i 0).toNat = 128) := by
      rintro ⟨h1, h2⟩
      first
        | (have h : ¬ (i : Int) = 0 := (by assumption)
           omega)
        | (have h : ¬ (((s.getD (i : Int).toNat 0).toNat : Nat) : Int) = 128 := (by assumption)
           have h3 : (s.getD (i : Int).toNat 0).toNat = 128 := h2
           omega)
    have hstep := toInt_step hil (by omega) hc0 hv0
    have hV : v * 128 + (s.getD i 0).toNat % 128 < 18446744073709551616 := by omega
  all_goals first
    | (have h : ¬ (((s.getD (i : Int).toNat 0).toNat : Nat) : Int) < 128 := (by assumption)
       have h3 : ¬ (s.getD i 0).toNat < 128 := (fun hx => h (by show ((s.getD i 0).toNat : Int) < 128; omega))
       rw [if_neg h3] at hstep
       exact ag (again (i + 1, (i : Int) + 1, v * 128 + (s.getD i 0).toNat % 128) ⟨(by dsimp only; omega), hV, (by dsimp only; rw [ht, hstep]), (by dsimp only; omega)⟩ (by dsimp only; omega)))
    | skip
  all_goals
    have h : (((s.getD (i : Int).toNat 0).toNat : Nat) : Int) < 128 := by assumption
    have h3 : (s.getD i 0).toNat < 128 := by
      have h4 : ((s.getD i 0).toNat : Int) < 128 := h
      omega
    rw [if_pos h3] at hstep
    have e : toInt s = some (unzig (v * 128 + (s.getD i 0).toNat % 128), s.drop (i + 1)) := by rw [ht, hstep]
    rw [e]
    repeat' (first | refine shr ?_ (ti_shr1 (v * 128 + (s.getD (i : Int).toNat 0).toNat % 128)) | refine cvr ?_ (ti_half (v * 128 + (s.getD (i : Int).toNat 0).toNat % 128) hV) | refine band ?_ (ti_one (v * 128 + (s.getD (i : Int).toNat 0).toNat % 128) hV) | refine cvr ?_ (ti_par (v * 128 + (s.getD (i : Int).toNat 0).toNat % 128)) | refine ngr ?_ (ti_neg (v * 128 + (s.getD (i : Int).toNat 0).toNat % 128)) | refine bxor ?_ (ti_xor (v * 128 + (s.getD (i : Int).toNat 0).toNat % 128) hV) | refine mv ?_ | refine asn ?_ | refine jn ?_ | refine nl ?_ | refine sq ?_ | refine rg ?_ | refine lnb ?_ | refine lls rfl ?_ | refine ad ?_ | refine lss ?_ | refine eql ?_ | refine gtr ?_ | refine p1 ?_ | refine p0 ?_ | refine sk2 ?_ | refine kp ?_ | refine ct ?_ | refine cf ?_ | (refine cd (fun hc => ?_) (fun hc => ?_) <;> try (exfalso; omega)) | (refine cn (fun hc => ?_) (fun hc => ?_) <;> try (exfalso; omega)) | refine bl ?_ | refine ib ?_ | refine xt ?_ | refine cc ?_ | refine ixb ?_ | refine slb ?_ | refine slbl ?_ | refine slbh ?_ | refine cv ?_ | refine mn ?_ | refine af_ ?_ | (refine gd (fun hc => ?_) (fun hc => ?_) <;> try (exfalso; omega)) | (refine gn (fun hc => ?_) (fun hc => ?_) <;> try (exfalso; omega)) | refine aw ?_ | refine ng ?_ | refine sli rfl ?_ | refine slil rfl ?_ | refine slih rfl ?_ | refine cb (fun hc => ?_) (fun hc => ?_) | refine gs (fun hc => ?_) (fun hc => ?_) | refine J_draw (id := 10) [(0, true, []), (1, true, []), (2, true, []), (3, true, []), (4, true, []), (5, true, []), (6, true, []), (7, true, []), (8, true, []), (9, true, []), (10, true, []), (11, true, []), (12, true, []), (13, true, []), (14, true, [])] (by kernel_rfl) ?_ | fail)
    refine rt ?_
    exact ⟨_, ⟨rfl, rfl⟩, _, by repeat constructor⟩
end Go.Proofs.YtaeefjcbmkiiaaaGreatDoor
/- The codec's reading half, walked: texts, frames; the log's numbers. -/
namespace Go.Proofs.YtaeefjcbmkiiaaaGreatDoor
open Go Sl
attribute [local irreducible] J JR JS RO CR Arr Sat Tr sat blk
set_option linter.unusedVariables false
set_option maxHeartbeats 1000000
set_option maxRecDepth 4000
/-- A number read, by cases. -/
theorem toInt_some_tr (s : List UInt8) (hs : s.length ≤ 9223372036854775807) {n : Int} {r : List UInt8} (h : toInt s = some (n, r)) : Tr Tryz.prog 143 [vs s] [] fun v Γ => v = .tuple #[.int .i64 n, vs r, .bool true] ∧ Γ = [] := by
  have := toInt_tr s hs; rw [h] at this; exact this
theorem toInt_none_tr (s : List UInt8) (hs : s.length ≤ 9223372036854775807) (h : toInt s = none) : Tr Tryz.prog 143 [vs s] [] fun v Γ => v = .tuple #[.int .i64 0, vs [], .bool false] ∧ Γ = [] := by
  have := toInt_tr s hs; rw [h] at this; exact this
theorem toIntFrom_len : ∀ (s : List UInt8) (i v : Nat) {n : Int} {r : List UInt8}, toIntFrom i v s = some (n, r) → r.length < s.length
  | [], i, v, n, r, h => by simp [toIntFrom] at h
  | c :: s, i, v, n, r, h => by
    rw [toIntFrom] at h
    split at h
    · cases h
    · split at h
      · cases h; simp
      · have := toIntFrom_len s _ _ h
        simp; omega
theorem toInt_len {s : List UInt8} {n : Int} {r : List UInt8} (h : toInt s = some (n, r)) : r.length < s.length := toIntFrom_len s 0 0 h
def textRes : Option (List UInt8 × List UInt8) → Value
  | some (t, r) => .tuple #[vs t, vs r, .bool true]
  | none => .tuple #[vs [], vs [], .bool false]
theorem toText_tr (s : List UInt8) (hs : s.length ≤ 9223372036854775807) : Tr Tryz.prog 145 [vs s] [] fun v Γ => v = textRes (toText s) ∧ Γ = [] := by
  refine Tr_of_J Tryz.func145 follows rfl Tryz.ntmps145 (by simp) fun B F => ?_
  cases ht : toInt s with
  | none =>
    have e : toText s = none := by unfold toText; rw [ht]
    rw [e]
    repeat' (first | (refine cle rfl (toInt_none_tr s hs ht) ?_; rintro v Γ' ⟨rfl, rfl⟩; refine n0 ?_) | refine mv ?_ | refine asn ?_ | refine jn ?_ | refine nl ?_ | refine xt2 ?_ | refine sq ?_ | refine rg ?_ | refine lnb ?_ | refine lls rfl ?_ | refine lss ?_ | refine gtr ?_ | refine nt ?_ | refine p1 ?_ | refine p0 ?_ | refine sk2 ?_ | refine kp ?_ | refine ct ?_ | refine cf ?_ | (refine cd (fun hc => ?_) (fun hc => ?_) <;> try (exfalso; omega)) | (refine cn (fun hc => ?_) (fun hc => ?_) <;> try (exfalso; omega)) | refine bl ?_ | refine ib ?_ | refine xt ?_ | refine slb ?_ | refine slbl ?_ | refine slbh ?_ | refine af_ ?_ | (refine gd (fun hc => ?_) (fun hc => ?_) <;> try (exfalso; omega)) | (refine gn (fun hc => ?_) (fun hc => ?_) <;> try (exfalso; omega)) | refine sli rfl ?_ | refine slil rfl ?_ | refine slih rfl ?_ | refine cb (fun hc => ?_) (fun hc => ?_) | refine gs (fun hc => ?_) (fun hc => ?_) | refine J_draw (id := 4) [(0, true, []), (1, true, []), (2, true, []), (3, true, []), (4, true, []), (5, true, []), (6, true, []), (7, true, []), (8, true, [])] (by kernel_rfl) ?_ | fail)
    all_goals
      refine rt ?_
      exact ⟨_, ⟨rfl, rfl⟩, _, by repeat constructor⟩
  | some x =>
    obtain ⟨n, r⟩ := x
    have hl := toInt_len ht
    have e : toText s = if n < 0 ∨ (r.length : Int) < n then none else some (r.take n.toNat, r.drop n.toNat) := by unfold toText; rw [ht]
    rw [e]
    repeat' (first | (refine cle rfl (toInt_some_tr s hs ht) ?_; rintro v Γ' ⟨rfl, rfl⟩; refine n0 ?_) | refine mv ?_ | refine asn ?_ | refine jn ?_ | refine nl ?_ | refine xt2 ?_ | refine sq ?_ | refine rg ?_ | refine lnb ?_ | refine lls rfl ?_ | refine lss ?_ | refine gtr ?_ | refine nt ?_ | refine p1 ?_ | refine p0 ?_ | refine sk2 ?_ | refine kp ?_ | refine ct ?_ | refine cf ?_ | (refine cd (fun hc => ?_) (fun hc => ?_) <;> try (exfalso; omega)) | (refine cn (fun hc => ?_) (fun hc => ?_) <;> try (exfalso; omega)) | refine bl ?_ | refine ib ?_ | refine xt ?_ | refine slb ?_ | refine slbl ?_ | refine slbh ?_ | refine af_ ?_ | (refine gd (fun hc => ?_) (fun hc => ?_) <;> try (exfalso; omega)) | (refine gn (fun hc => ?_) (fun hc => ?_) <;> try (exfalso; omega)) | refine sli rfl ?_ | refine slil rfl ?_ | refine slih rfl ?_ | refine cb (fun hc => ?_) (fun hc => ?_) | refine gs (fun hc => ?_) (fun hc => ?_) | refine J_draw (id := 4) [(0, true, []), (1, true, []), (2, true, []), (3, true, []), (4, true, []), (5, true, []), (6, true, []), (7, true, []), (8, true, [])] (by kernel_rfl) ?_ | fail)
    · rw [if_pos (.inl (by assumption))]
      refine rt ?_
      exact ⟨_, ⟨rfl, rfl⟩, _, by repeat constructor⟩
    · rw [if_pos (.inr (by assumption))]
      refine rt ?_
      exact ⟨_, ⟨rfl, rfl⟩, _, by repeat constructor⟩
    · rw [if_neg (by omega)]
      refine rt ?_
      exact ⟨_, ⟨rfl, rfl⟩, _, by repeat constructor⟩
/-! ### frames taken off -/
theorem uf_cv (c : UInt8) : IntKind.i64.wrap ((c.toNat : Nat) : Int) = ((c.toNat : Nat) : Int) := by
  have := c.toNat_lt
  exact wrap_in (by omega) (by omega)
theorem uf_shl (c : UInt8) (k m : Nat) (hk : k ≤ 24) (hm : 2 ^ k = m) : IntKind.i64.wrap (((c.toNat : Nat) : Int) * 2 ^ (min ((k : Nat) : Int).toNat IntKind.i64.bits)) = ((c.toNat * m : Nat) : Int) := by
  have hc := c.toNat_lt
  have e : min ((k : Nat) : Int).toNat IntKind.i64.bits = k := by rw [Int.toNat_natCast]; exact Nat.min_eq_left (by show k ≤ 64; omega)
  have hm2 : m ≤ 16777216 := by rw [← hm]; exact Nat.pow_le_pow_right (by decide) hk
  rw [e, show ((2 : Int) ^ k) = ((2 ^ k : Nat) : Int) by simp, hm, ← Int.natCast_mul]
  have : c.toNat * m ≤ 255 * 16777216 := Nat.mul_le_mul (by omega) hm2
  exact wrap_in (by omega) (by omega)
theorem or_dis (a b k : Nat) (hb : b < 2 ^ k) : a * 2 ^ k ||| b = a * 2 ^ k + b := by
  have := Nat.shiftLeft_add_eq_or_of_lt (i := k) hb a
  rw [Nat.shiftLeft_eq] at this
  exact this.symm
theorem uf_or (a b : Nat) (ha : a < 4294967296) (hb : b < 4294967296) (r : Nat) (hr : a ||| b = r) (h : r < 4294967296) : IntKind.i64.wrap ((BitVec.ofInt IntKind.i64.bits ((a : Nat) : Int) ||| BitVec.ofInt IntKind.i64.bits ((b : Nat) : Int)).toNat : Int) = ((r : Nat) : Int) := by
  show IntKind.i64.wrap ((BitVec.ofInt 64 _ ||| BitVec.ofInt 64 _).toNat : Int) = _
  rw [BitVec.ofInt_natCast, BitVec.ofInt_natCast, BitVec.toNat_or, BitVec.toNat_ofNat, BitVec.toNat_ofNat, Nat.mod_eq_of_lt (by omega), Nat.mod_eq_of_lt (by omega), hr]
  exact wrap_in (by omega) (by omega)
theorem uf_all (s : List UInt8) : ∃ a0 a1 a2 a01 a012 N : Nat, N = be32 s ∧ N < 4294967296 ∧
    IntKind.i64.wrap ((((s.getD 0 0).toNat : Nat) : Int) * 2 ^ (min (24 : Int).toNat IntKind.i64.bits)) = ((a0 : Nat) : Int) ∧
    IntKind.i64.wrap ((((s.getD 1 0).toNat : Nat) : Int) * 2 ^ (min (16 : Int).toNat IntKind.i64.bits)) = ((a1 : Nat) : Int) ∧
    IntKind.i64.wrap ((((s.getD 2 0).toNat : Nat) : Int) * 2 ^ (min (8 : Int).toNat IntKind.i64.bits)) = ((a2 : Nat) : Int) ∧
    IntKind.i64.wrap ((BitVec.ofInt IntKind.i64.bits ((a0 : Nat) : Int) ||| BitVec.ofInt IntKind.i64.bits ((a1 : Nat) : Int)).toNat : Int) = ((a01 : Nat) : Int) ∧
    IntKind.i64.wrap ((BitVec.ofInt IntKind.i64.bits ((a01 : Nat) : Int) ||| BitVec.ofInt IntKind.i64.bits ((a2 : Nat) : Int)).toNat : Int) = ((a012 : Nat) : Int) ∧
    IntKind.i64.wrap ((BitVec.ofInt IntKind.i64.bits ((a012 : Nat) : Int) ||| BitVec.ofInt IntKind.i64.bits (((s.getD 3 0).toNat : Nat) : Int)).toNat : Int) = ((N : Nat) : Int) := by
  have c0 := (s.getD 0 0).toNat_lt
  have c1 := (s.getD 1 0).toNat_lt
  have c2 := (s.getD 2 0).toNat_lt
  have c3 := (s.getD 3 0).toNat_lt
  have o1 : (s.getD 0 0).toNat * 16777216 ||| (s.getD 1 0).toNat * 65536 = (s.getD 0 0).toNat * 16777216 + (s.getD 1 0).toNat * 65536 := or_dis _ _ 24 (by omega)
  have o2 : ((s.getD 0 0).toNat * 16777216 + (s.getD 1 0).toNat * 65536) ||| (s.getD 2 0).toNat * 256 = (s.getD 0 0).toNat * 16777216 + (s.getD 1 0).toNat * 65536 + (s.getD 2 0).toNat * 256 := by
    have e : (s.getD 0 0).toNat * 16777216 + (s.getD 1 0).toNat * 65536 = ((s.getD 0 0).toNat * 256 + (s.getD 1 0).toNat) * 2 ^ 16 := by omega
    rw [e]; exact or_dis _ _ 16 (by omega)
  have o3 : ((s.getD 0 0).toNat * 16777216 + (s.getD 1 0).toNat * 65536 + (s.getD 2 0).toNat * 256) ||| (s.getD 3 0).toNat = be32 s := by
    have e : (s.getD 0 0).toNat * 16777216 + (s.getD 1 0).toNat * 65536 + (s.getD 2 0).toNat * 256 = ((s.getD 0 0).toNat * 65536 + (s.getD 1 0).toNat * 256 + (s.getD 2 0).toNat) * 2 ^ 8 := by omega
    rw [e, or_dis _ _ 8 (by omega)]; unfold be32; omega
  have hbe : be32 s < 4294967296 := by unfold be32; omega
  exact ⟨(s.getD 0 0).toNat * 16777216, (s.getD 1 0).toNat * 65536, (s.getD 2 0).toNat * 256, _, _, be32 s, rfl, hbe, uf_shl (s.getD 0 0) 24 16777216 (by decide) rfl, uf_shl (s.getD 1 0) 16 65536 (by decide) rfl, uf_shl (s.getD 2 0) 8 256 (by decide) rfl, uf_or _ _ (by omega) (by omega) _ o1 (by omega), uf_or _ _ (by omega) (by omega) _ o2 (by omega), uf_or _ _ (by omega) (by omega) _ o3 hbe⟩
theorem FrameC_tr (s : List UInt8) (hs : s.length ≤ 65536) : Tr Tryz.prog 85 [vs s] [] fun r Γ => r = .tuple #[vs (frame s), .int .i64 0] ∧ Γ = [] :=
  (Frame_tr s (by omega)).post fun r Γ ⟨h1, h2⟩ B F w hS => ⟨Γ, ⟨by rw [h1, if_pos hs], h2⟩, hS⟩
theorem Unframe_tr (s : List UInt8) (hs : s.length ≤ 100000000) : Tr Tryz.prog 91 [vs s] [] fun v Γ => v = .tuple #[vs (unframe s).2.1, .int .i64 (unframe s).2.2, .int .i64 (unframe s).1] ∧ Γ = [] := by
  obtain ⟨a0, a1, a2, a01, a012, N, hN, hbe, s0, s1, s2, w1, w2, w3⟩ := uf_all s
  have u0 := uf_cv (s.getD 0 0)
  have u1 := uf_cv (s.getD 1 0)
  have u2 := uf_cv (s.getD 2 0)
  have u3 := uf_cv (s.getD 3 0)
  refine Tr_of_J Tryz.func91 follows rfl Tryz.ntmps91 (by simp) fun B F => ?_
  repeat' (first | refine cvr ?_ u0 | refine cvr ?_ u1 | refine cvr ?_ u2 | refine cvr ?_ u3 | refine shl ?_ s0 | refine shl ?_ s1 | refine shl ?_ s2 | refine bor ?_ w1 | refine bor ?_ w2 | refine bor ?_ w3 | refine mv ?_ | refine asn ?_ | refine jn ?_ | refine nl ?_ | refine xt2 ?_ | refine sq ?_ | refine rg ?_ | refine lnb ?_ | refine lls rfl ?_ | refine ad ?_ | refine lss ?_ | refine gtr ?_ | refine kp ?_ | refine ct ?_ | refine cf ?_ | (refine cd (fun hc => ?_) (fun hc => ?_) <;> try (exfalso; omega)) | (refine cn (fun hc => ?_) (fun hc => ?_) <;> try (exfalso; omega)) | refine bl ?_ | refine ib ?_ | refine xt ?_ | refine sne ?_ | refine cc ?_ | refine ixb ?_ | refine slb ?_ | refine slbl ?_ | refine slbh ?_ | refine cv ?_ | refine af_ ?_ | refine aw ?_ | refine sli rfl ?_ | refine slil rfl ?_ | refine slih rfl ?_ | refine cb (fun hc => ?_) (fun hc => ?_) | refine J_draw (id := 3) [(0, true, []), (1, true, []), (2, true, []), (3, true, []), (4, true, []), (5, true, []), (6, true, []), (7, true, []), (8, true, []), (9, true, []), (10, true, []), (11, true, []), (12, true, []), (13, true, []), (14, true, []), (15, true, []), (16, true, []), (17, true, []), (18, true, [])] (by kernel_rfl) ?_ | fail)
  · have e : unframe s = (8, [], 0) := if_pos (by omega)
    rw [e]
    refine rt ?_
    exact ⟨_, ⟨rfl, rfl⟩, _, by repeat constructor⟩
  · have e : unframe s = (10, [], 0) := by unfold unframe; rw [if_neg (by omega), ← hN, if_pos (by omega)]
    rw [e]
    refine rt ?_
    exact ⟨_, ⟨rfl, rfl⟩, _, by repeat constructor⟩
  · have e : unframe s = (8, [], 0) := by unfold unframe; rw [if_neg (by omega), ← hN, if_neg (by omega), if_pos (by omega)]
    rw [e]
    refine rt ?_
    exact ⟨_, ⟨rfl, rfl⟩, _, by repeat constructor⟩
  have e : unframe s = if frame ((s.take (8 + N)).drop 8) ≠ s.take (8 + N) then (9, [], 0) else (0, (s.take (8 + N)).drop 8, 8 + N) := by unfold unframe; rw [if_neg (by omega), ← hN, if_neg (by omega), if_neg (by omega)]
  rw [e]
  have hP : ((s.take (8 + (N : Int)).toNat).drop (Int.toNat 8)).length ≤ 65536 := by
    rw [List.length_drop, List.length_take]
    have : Int.toNat 8 = 8 := rfl
    omega
  repeat' (first | (refine cle rfl (FrameC_tr ((s.take (8 + (N : Int)).toNat).drop (Int.toNat 8)) hP) ?_; rintro v Γ' ⟨rfl, rfl⟩; refine n0 ?_) | refine mv ?_ | refine asn ?_ | refine jn ?_ | refine nl ?_ | refine xt2 ?_ | refine sq ?_ | refine rg ?_ | refine lnb ?_ | refine lls rfl ?_ | refine ad ?_ | refine lss ?_ | refine gtr ?_ | refine kp ?_ | refine ct ?_ | refine cf ?_ | (refine cd (fun hc => ?_) (fun hc => ?_) <;> try (exfalso; omega)) | (refine cn (fun hc => ?_) (fun hc => ?_) <;> try (exfalso; omega)) | refine bl ?_ | refine ib ?_ | refine xt ?_ | refine sne ?_ | refine cc ?_ | refine ixb ?_ | refine slb ?_ | refine slbl ?_ | refine slbh ?_ | refine cv ?_ | refine af_ ?_ | refine aw ?_ | refine sli rfl ?_ | refine slil rfl ?_ | refine slih rfl ?_ | refine cb (fun hc => ?_) (fun hc => ?_) | refine J_draw (id := 3) [(0, true, []), (1, true, []), (2, true, []), (3, true, []), (4, true, []), (5, true, []), (6, true, []), (7, true, []), (8, true, []), (9, true, []), (10, true, []), (11, true, []), (12, true, []), (13, true, []), (14, true, []), (15, true, []), (16, true, []), (17, true, []), (18, true, [])] (by kernel_rfl) ?_ | fail)
  · have h1 : ¬ frame ((s.take (8 + N)).drop 8) = s.take (8 + N) := by assumption
    rw [if_pos h1]
    refine rt ?_
    exact ⟨_, ⟨rfl, rfl⟩, _, by repeat constructor⟩
  · have h1 : frame ((s.take (8 + N)).drop 8) = s.take (8 + N) := by assumption
    rw [if_neg (by rw [h1]; simp)]
    refine rt ?_
    exact ⟨_, ⟨rfl, rfl⟩, _, by repeat constructor⟩
end Go.Proofs.YtaeefjcbmkiiaaaGreatDoor
/- The log reads: numbers; a record's payload. -/
namespace Go.Proofs.YtaeefjcbmkiiaaaGreatDoor
open Go Sl
attribute [local irreducible] J JR JS RO CR Arr Sat Tr sat blk
set_option linter.unusedVariables false
set_option linter.unusedSimpArgs false
set_option maxHeartbeats 2000000
set_option maxRecDepth 4000
/-- What is left to read, behind i numbers. -/
def leftInts : Nat → Nat → List UInt8 → Option (List Int × List UInt8) := fun k _ s => toInts k s
theorem toInts_none {k : Nat} {s : List UInt8} (h : toInt s = none) : toInts (k + 1) s = none := by rw [toInts, h]
theorem toInts_neg {k : Nat} {s : List UInt8} {n : Int} {r : List UInt8} (h : toInt s = some (n, r)) (hn : n < 0) : toInts (k + 1) s = none := by rw [toInts, h]; dsimp only; rw [if_pos hn]
theorem toInts_some {k : Nat} {s : List UInt8} {n : Int} {r : List UInt8} (h : toInt s = some (n, r)) (hn : ¬ n < 0) : toInts (k + 1) s = match toInts k r with | some (l, r') => some (n :: l, r') | none => none := by rw [toInts, h]; dsimp only; rw [if_neg hn]; all_goals (cases toInts k r <;> rfl)
/-- Numbers read ahead of those to be read. -/
def pre (L : List Int) : Option (List Int × List UInt8) → Option (List Int × List UInt8)
  | some (l, r) => some (L ++ l, r)
  | none => none
theorem pre_nil (o : Option (List Int × List UInt8)) : pre [] o = o := by cases o with | none => rfl | some x => rfl
def numsPost (o : Option (List Int × List UInt8)) (v : Value) (Γ : List Assn) : Prop :=
  match o with
  | some (l, r) => ∃ lv, v = .tuple #[lv, vs r, .bool true] ∧ Γ = [sl 3 intE lv l]
  | none => v = .tuple #[.slice none 0 0, vs [], .bool false] ∧ Γ = []
theorem numbers_tr (s : List UInt8) (hs : s.length ≤ 9223372036854775807) (k : Nat) (hk : k ≤ 10) : Tr Tryz.prog 144 [vs s, .int .i64 k] [] fun v Γ => numsPost (toInts k s) v Γ := by
  refine Tr_of_J Tryz.func144 follows rfl Tryz.ntmps144 (by simp) fun B F => ?_
  repeat' (first | refine mv ?_ | refine asn ?_ | refine jn ?_ | refine nl ?_ | refine xt2 ?_ | refine sq ?_ | refine rg ?_ | refine ad ?_ | refine lss ?_ | refine nt ?_ | refine p1 ?_ | refine p0 ?_ | refine sk2 ?_ | refine kp ?_ | refine ct ?_ | refine cf ?_ | (refine cd (fun hc => ?_) (fun hc => ?_) <;> try (exfalso; omega)) | (refine cn (fun hc => ?_) (fun hc => ?_) <;> try (exfalso; omega)) | refine bl ?_ | refine ib ?_ | refine xt ?_ | refine cc ?_ | refine af_ ?_ | (refine gd (fun hc => ?_) (fun hc => ?_) <;> try (exfalso; omega)) | (refine gn (fun hc => ?_) (fun hc => ?_) <;> try (exfalso; omega)) | refine aw ?_ | refine cb (fun hc => ?_) (fun hc => ?_) | refine gs (fun hc => ?_) (fun hc => ?_) | fail)
  refine J_sat (Γ' := sl 3 intE (.slice none 0 0) [] :: _) ?_ fun w hS => sl_nil hS
  refine lp (α := Nat × Int × Value × List Int × List UInt8) (fun y => [(0, vs y.2.2.2.2), (7, y.2.2.1), (11, .int .i64 k), (12, .int .i64 y.2.1)]) (fun y => [sl 3 intE y.2.2.1 y.2.2.2.1]) (fun y => y.2.1 = (y.1 : Int) ∧ y.1 ≤ k ∧ y.2.2.2.1.length = y.1 ∧ y.2.2.2.2.length ≤ s.length ∧ toInts k s = pre y.2.2.2.1 (toInts (k - y.1) y.2.2.2.2)) (fun y => k - y.1) (0, 0, .slice none 0 0, [], s) ?_ ⟨rfl, Nat.zero_le _, rfl, Nat.le_refl _, by rw [pre_nil]; rfl⟩
  rintro ⟨i, n, v, L, u⟩ ⟨hn, hi, hL, hu, ht⟩ again
  dsimp only at hn hi hL hu ht again ⊢
  subst hn
  have hus : u.length ≤ 9223372036854775807 := by omega
  by_cases hik : i < k
  · obtain ⟨j, hj⟩ : ∃ j, k - i = j + 1 := ⟨k - i - 1, by omega⟩
    cases hx : toInt u with
    | none =>
      have e : toInts k s = none := by rw [ht, hj, toInts_none hx]; rfl
      rw [e]
      repeat' (first | (refine cle rfl (toInt_none_tr u hus hx) ?_; rintro v Γ' ⟨rfl, rfl⟩; refine n0 ?_) | refine mv ?_ | refine asn ?_ | refine jn ?_ | refine nl ?_ | refine xt2 ?_ | refine sq ?_ | refine rg ?_ | refine ad ?_ | refine lss ?_ | refine nt ?_ | refine p1 ?_ | refine p0 ?_ | refine sk2 ?_ | refine kp ?_ | refine ct ?_ | refine cf ?_ | (refine cd (fun hc => ?_) (fun hc => ?_) <;> try (exfalso; omega)) | (refine cn (fun hc => ?_) (fun hc => ?_) <;> try (exfalso; omega)) | refine bl ?_ | refine ib ?_ | refine xt ?_ | refine cc ?_ | refine af_ ?_ | (refine gd (fun hc => ?_) (fun hc => ?_) <;> try (exfalso; omega)) | (refine gn (fun hc => ?_) (fun hc => ?_) <;> try (exfalso; omega)) | refine aw ?_ | refine cb (fun hc => ?_) (fun hc => ?_) | refine gs (fun hc => ?_) (fun hc => ?_) | fail)
      refine rt ?_
      exact ⟨_, ⟨rfl, rfl⟩, _, by repeat constructor⟩
    | some x =>
      obtain ⟨z, r⟩ := x
      have hr := toInt_len hx
      by_cases hz : z < 0
      · have e : toInts k s = none := by rw [ht, hj, toInts_neg hx hz]; rfl
        rw [e]
        repeat' (first | (refine cle rfl (toInt_some_tr u hus hx) ?_; rintro v Γ' ⟨rfl, rfl⟩; refine n0 ?_) | refine mv ?_ | refine asn ?_ | refine jn ?_ | refine nl ?_ | refine xt2 ?_ | refine sq ?_ | refine rg ?_ | refine ad ?_ | refine lss ?_ | refine nt ?_ | refine p1 ?_ | refine p0 ?_ | refine sk2 ?_ | refine kp ?_ | refine ct ?_ | refine cf ?_ | (refine cd (fun hc => ?_) (fun hc => ?_) <;> try (exfalso; omega)) | (refine cn (fun hc => ?_) (fun hc => ?_) <;> try (exfalso; omega)) | refine bl ?_ | refine ib ?_ | refine xt ?_ | refine cc ?_ | refine af_ ?_ | (refine gd (fun hc => ?_) (fun hc => ?_) <;> try (exfalso; omega)) | (refine gn (fun hc => ?_) (fun hc => ?_) <;> try (exfalso; omega)) | refine aw ?_ | refine cb (fun hc => ?_) (fun hc => ?_) | refine gs (fun hc => ?_) (fun hc => ?_) | fail)
        refine rt ?_
        exact ⟨_, ⟨rfl, rfl⟩, _, by repeat constructor⟩
      · repeat' (first | (refine cle rfl (toInt_some_tr u hus hx) ?_; rintro v Γ' ⟨rfl, rfl⟩; refine n0 ?_) | refine bsl (e := intE) (X := [z]) (fun v2 => ?_) (.cona rfl rfl .nil) | refine apo rfl rfl (fun v3 => ?_) (by simp; omega) (by simp; omega) | refine mv ?_ | refine asn ?_ | refine jn ?_ | refine nl ?_ | refine xt2 ?_ | refine sq ?_ | refine rg ?_ | refine ad ?_ | refine lss ?_ | refine nt ?_ | refine p1 ?_ | refine p0 ?_ | refine sk2 ?_ | refine kp ?_ | refine ct ?_ | refine cf ?_ | (refine cd (fun hc => ?_) (fun hc => ?_) <;> try (exfalso; omega)) | (refine cn (fun hc => ?_) (fun hc => ?_) <;> try (exfalso; omega)) | refine bl ?_ | refine ib ?_ | refine xt ?_ | refine cc ?_ | refine af_ ?_ | (refine gd (fun hc => ?_) (fun hc => ?_) <;> try (exfalso; omega)) | (refine gn (fun hc => ?_) (fun hc => ?_) <;> try (exfalso; omega)) | refine aw ?_ | refine cb (fun hc => ?_) (fun hc => ?_) | refine gs (fun hc => ?_) (fun hc => ?_) | fail)
        refine ag (again (i + 1, (i : Int) + 1, v3, L ++ [z], r) ⟨by dsimp only; omega, by dsimp only; omega, by dsimp only; simp [hL], by dsimp only; omega, ?_⟩ (by dsimp only; omega))
        dsimp only
        rw [ht, hj, toInts_some hx hz, show k - (i + 1) = j by omega]
        cases toInts j r with
        | none => rfl
        | some y => simp [pre]
  · have hki : k - i = 0 := by omega
    have e : toInts k s = some (L, u) := by rw [ht, hki]; simp [toInts, pre]
    rw [e]
    repeat' (first | refine mv ?_ | refine asn ?_ | refine jn ?_ | refine nl ?_ | refine xt2 ?_ | refine sq ?_ | refine rg ?_ | refine ad ?_ | refine lss ?_ | refine nt ?_ | refine p1 ?_ | refine p0 ?_ | refine sk2 ?_ | refine kp ?_ | refine ct ?_ | refine cf ?_ | (refine cd (fun hc => ?_) (fun hc => ?_) <;> try (exfalso; omega)) | (refine cn (fun hc => ?_) (fun hc => ?_) <;> try (exfalso; omega)) | refine bl ?_ | refine ib ?_ | refine xt ?_ | refine cc ?_ | refine af_ ?_ | (refine gd (fun hc => ?_) (fun hc => ?_) <;> try (exfalso; omega)) | (refine gn (fun hc => ?_) (fun hc => ?_) <;> try (exfalso; omega)) | refine aw ?_ | refine cb (fun hc => ?_) (fun hc => ?_) | refine gs (fun hc => ?_) (fun hc => ?_) | fail)
    refine rt ?_
    exact ⟨_, ⟨_, rfl, rfl⟩, _, by repeat constructor⟩
end Go.Proofs.YtaeefjcbmkiiaaaGreatDoor
