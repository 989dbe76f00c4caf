/- The acts that a law is handed: how they lie in memory; the tables that its row lists, laid. -/
import Derived.Test.YtaeefjcbmkiiaaaGreatDoorL2
import Derived.Test.YtaeefjcbmkiiaaaGreatDoorRows
import Derived.ProofKit
import Derived.LaidMore
import Derived.Lay
import Derived.OpenShut
import Derived.Stop.Joined
import Derived.Carry
import Derived.Deep.Slices
namespace Go.Proofs.YtaeefjcbmkiiaaaGreatDoor
open Go Sl Go.ChangeShapes Go.WideShapes Go.ChangeAt Go.RowKit Go.Deep
set_option linter.unusedVariables false
set_option maxRecDepth 100000
theorem own : ownKnob Tryz.prog.godebug = none := by kernel_rfl
theorem laidOut : laidOutB Tryz.prog = true := by kernel_rfl
section
variable {H : Type} {enc : TypeId × Value → H} {w : World} {sp : Nat → Bool} {held : Bool}
theorem addr_add (b o n : Nat) : (⟨b, o, none⟩ : Addr).add n = ⟨b, o + n, none⟩ := by
  unfold Addr.add
  split
  · rename_i h; rw [h]; rfl
  · rfl
theorem i64_wf {n : Int} (h : (Lit.int .i64 n).wf = true) : I64 n := by
  simpa [Lit.wf, IntKind.min, IntKind.max, IntKind.signed, IntKind.bits, I64] using h
/-- One act's eight cells. -/
theorem open_act {base fuel : Nat} {cs : List Value} {x : DataW H × List MemPlace} (h : DataW.trod enc Tryz.prog w base sp held fuel 34 cs = some x) : ∃ a : Act, a.In ∧ cs = actE.enc a := by
  obtain ⟨xs, n, _, _, hlen, hxl, hf⟩ := DataW.trod_struct Tryz.underlying34 h
  have hC : Tryz.prog.cellsOf 34 = 8 := by kernel_rfl
  have c3 : Tryz.prog.cellsOf 3 = 1 := by kernel_rfl
  have c9 : Tryz.prog.cellsOf 9 = 1 := by kernel_rfl
  have c32 : Tryz.prog.cellsOf 32 = 1 := by kernel_rfl
  rw [hC] at hlen
  match cs, hlen with
  | [v0, v1, v2, v3, v4, v5, v6, v7], _ =>
    have hx : xs.length = 8 := hxl
    have get : ∀ i, i < 8 → ∃ y, xs[i]? = some y := fun i hi => ⟨xs[i]'(by omega), List.getElem?_eq_getElem (by omega)⟩
    have g0 : DataW.trod enc Tryz.prog w base sp held n 3 (([v0, v1, v2, v3, v4, v5, v6, v7].drop 0).take (Tryz.prog.cellsOf 3)) = xs[0]? := hf 0 _ rfl
    have g1 : DataW.trod enc Tryz.prog w base sp held n 3 (([v0, v1, v2, v3, v4, v5, v6, v7].drop 1).take (Tryz.prog.cellsOf 3)) = xs[1]? := hf 1 _ rfl
    have g2 : DataW.trod enc Tryz.prog w base sp held n 3 (([v0, v1, v2, v3, v4, v5, v6, v7].drop 2).take (Tryz.prog.cellsOf 3)) = xs[2]? := hf 2 _ rfl
    have g3 : DataW.trod enc Tryz.prog w base sp held n 3 (([v0, v1, v2, v3, v4, v5, v6, v7].drop 3).take (Tryz.prog.cellsOf 3)) = xs[3]? := hf 3 _ rfl
    have g4 : DataW.trod enc Tryz.prog w base sp held n 3 (([v0, v1, v2, v3, v4, v5, v6, v7].drop 4).take (Tryz.prog.cellsOf 3)) = xs[4]? := hf 4 _ rfl
    have g5 : DataW.trod enc Tryz.prog w base sp held n 9 (([v0, v1, v2, v3, v4, v5, v6, v7].drop 5).take (Tryz.prog.cellsOf 9)) = xs[5]? := hf 5 _ rfl
    have g6 : DataW.trod enc Tryz.prog w base sp held n 32 (([v0, v1, v2, v3, v4, v5, v6, v7].drop 6).take (Tryz.prog.cellsOf 32)) = xs[6]? := hf 6 _ rfl
    have g7 : DataW.trod enc Tryz.prog w base sp held n 32 (([v0, v1, v2, v3, v4, v5, v6, v7].drop 7).take (Tryz.prog.cellsOf 32)) = xs[7]? := hf 7 _ rfl
    obtain ⟨y0, e0⟩ := get 0 (by decide)
    obtain ⟨y1, e1⟩ := get 1 (by decide)
    obtain ⟨y2, e2⟩ := get 2 (by decide)
    obtain ⟨y3, e3⟩ := get 3 (by decide)
    obtain ⟨y4, e4⟩ := get 4 (by decide)
    obtain ⟨y5, e5⟩ := get 5 (by decide)
    obtain ⟨y6, e6⟩ := get 6 (by decide)
    obtain ⟨y7, e7⟩ := get 7 (by decide)
    rw [c3, e0] at g0
    rw [c3, e1] at g1
    rw [c3, e2] at g2
    rw [c3, e3] at g3
    rw [c3, e4] at g4
    rw [c9, e5] at g5
    rw [c32, e6] at g6
    rw [c32, e7] at g7
    obtain ⟨n0, h0, _, w0⟩ := DataW.trod_int Tryz.underlying3 g0
    obtain ⟨n1, h1, _, w1⟩ := DataW.trod_int Tryz.underlying3 g1
    obtain ⟨n2, h2, _, w2⟩ := DataW.trod_int Tryz.underlying3 g2
    obtain ⟨n3, h3, _, w3⟩ := DataW.trod_int Tryz.underlying3 g3
    obtain ⟨n4, h4, _, w4⟩ := DataW.trod_int Tryz.underlying3 g4
    obtain ⟨s, h5, _, _⟩ := DataW.trod_string Tryz.underlying9 g5
    have row : ∀ {cs : List Value} {y : DataW H × List MemPlace}, DataW.trod enc Tryz.prog w base sp held n 32 cs = some y → ∃ q k m, cs = [.slice q k m] := fun g => by
      rcases DataW.trod_slice Tryz.underlying32 g with ⟨h, _⟩ | ⟨a, len, cap, _, _, _, _, h, _⟩
      · exact ⟨none, 0, 0, h⟩
      · exact ⟨some a, len, cap, h⟩
    obtain ⟨q, k, m, h6⟩ := row g6
    obtain ⟨q', k', m', h7⟩ := row g7
    simp only [List.drop_zero, List.drop_succ_cons, List.take_succ_cons, List.take_zero, List.cons.injEq, and_true] at h0 h1 h2 h3 h4 h5 h6 h7
    subst h0 h1 h2 h3 h4 h5 h6 h7
    refine ⟨⟨n0, n1, n2, n3, n4, s.data.toList, q, k, m, q', k', m'⟩, ⟨i64_wf w0, i64_wf w1, i64_wf w2, i64_wf w3, i64_wf w4⟩, ?_⟩
    show _ = [_, _, _, _, _, vs s.data.toList, _, _]
    have : vs s.data.toList = .string s := by
      show Value.string (bs s.data.toList) = _
      congr 1
    rw [this]
/-- All acts. -/
theorem open_acts {r : Reach} {b0 base : Nat} {v : Value} {d : DataW H} {p : List MemPlace} (hval : Value.okWide Tryz.prog w r b0 22 v) (h : DataW.Trod enc Tryz.prog w base sp held 22 v d p) : ∃ l : List Act, RdW w actE v l ∧ (∀ a ∈ l, a.In) ∧ l.length ≤ maxLen := by
  obtain ⟨fuel, h⟩ := h
  have hC : Tryz.prog.cellsOf 34 = 8 := by kernel_rfl
  have hone : v.cells.toList = [v] := by
    unfold Value.okWide at hval
    rw [Tryz.underlying22] at hval
    unfold Cell.okWide Cell.ok at hval
    rw [Tryz.underlying22] at hval
    cases v <;> first | rfl | (simp at hval)
  rw [hone] at h
  rcases open_slice Tryz.underlying22 h with ⟨h0, _⟩ | ⟨a, len, cap, m, n, D, Pl, hcs, hb, hl, hm, hmm, hx, hi⟩
  · exact ⟨[], .inl ⟨by simpa using h0, rfl⟩, fun a ha => (by cases ha), Nat.zero_le _⟩
  · have hv : v = .slice (some a) len cap := by simpa using hcs
    subst hv
    have hhas : w.has Tryz.prog r b0 a 34 cap := by
      unfold Value.okWide at hval
      rw [Tryz.underlying22] at hval
      unfold Cell.okWide Cell.ok at hval
      rw [Tryz.underlying22] at hval
      exact hval.2.2
    obtain ⟨_, hspot, row, cells, hsh, _⟩ := hhas
    obtain ⟨blk, off, spot⟩ := a
    dsimp only at hspot hsh
    subst hspot
    have hblk : ∃ cur E fz, w.heap[blk]? = some (.cells cur E fz) := by
      unfold World.shape? at hsh
      split at hsh
      · rename_i c e fz hc; exact ⟨c, e, fz, hc⟩
      · cases hsh
    obtain ⟨cur, E, fz, hblk⟩ := hblk
    have hlm : len ≤ m := by rw [hmm]; split <;> omega
    have key : ∀ i, i < len → ∃ act : Act, act.In ∧ ∀ j, j < 8 → cur.toList[off + (i * 8 + j)]? = (actE.enc act)[j]? := fun i hil => by
      obtain ⟨cs', hc, ht⟩ := hi i (by omega)
      obtain ⟨act, hin, rfl⟩ := open_act ht
      obtain ⟨_, _, hat⟩ := World.cells?_some hc
      refine ⟨act, hin, fun j hj => ?_⟩
      have := hat j (by rw [hC]; exact hj)
      rw [← this, hC, Go.Deep.add_add]
      rw [addr_add]
      unfold World.cell?
      dsimp only
      rw [hblk]
      simp
    have key' : ∃ f : Nat → Act, ∀ i, i < len → (f i).In ∧ ∀ j, j < 8 → cur.toList[off + (i * 8 + j)]? = (actE.enc (f i))[j]? := by
      refine ⟨fun i => if h : i < len then (key i h).choose else actE.dflt, fun i hil => ?_⟩
      simp only [hil, dif_pos]
      exact (key i hil).choose_spec
    obtain ⟨f, hf⟩ := key'
    have hll : ((List.range len).map f).length = len := by simp
    refine ⟨(List.range len).map f, .inr ⟨blk, off, cap, cur, E, fz, by rw [hll], by rw [hll]; exact hl, hblk, fun j hj => ?_⟩, fun x hx => ?_, by rw [hll]; omega⟩
    · rw [hll] at hj
      have hj8 : j < len * 8 := hj
      have e1 : j = j / 8 * 8 + j % 8 := by omega
      have hq : j / 8 < len := by omega
      rw [e1, (hf _ hq).2 (j % 8) (by omega)]
      have e2 : (flat actE ((List.range len).map f))[j / 8 * 8 + j % 8]? = _ := flat_get (e := actE) ((List.range len).map f) (j / 8) (j % 8) (by rw [hll]; exact hq) (by show _ < 8; omega)
      rw [e2]
      congr 2
      rw [List.getD_eq_getElem?_getD, List.getElem?_map, List.getElem?_range hq]; rfl
    · obtain ⟨i, hir, rfl⟩ := List.mem_map.1 hx
      exact (hf i (List.mem_range.1 hir)).1
end
end Go.Proofs.YtaeefjcbmkiiaaaGreatDoor
