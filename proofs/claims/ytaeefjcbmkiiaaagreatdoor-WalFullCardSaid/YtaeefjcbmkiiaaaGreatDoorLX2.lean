/- The names of a map's files, sorted; numbers sorted; is a name among some. -/
import Derived.Test.YtaeefjcbmkiiaaaGreatDoorLX
import Derived.Test.YtaeefjcbmkiiaaaGreatDoorD0
namespace Go.Proofs.YtaeefjcbmkiiaaaGreatDoor
open Go Go.RowKit Go.Maps Go.Sort Go.Shelf Sl
set_option linter.unusedVariables false
set_option maxHeartbeats 400000

abbrev leN : Nm → Nm → Bool := fun x y => decide (x ≤ y)
def sortN (l : List Nm) : List Nm := l.mergeSort leN
theorem sorts76 (m : Nat) : AnyZ.SortsIn Tryz.prog Tryz.sorted76_ren Fence.wide m :=
  ⟨fun blk off cap ss W hH hblk hsz => callsIn_wide.2 (AnyM.slices_Sort_string Tryz.sort114 blk off cap ss W hH hblk hsz),
   fun p cap W => callsIn_wide.2 (AnyM.slices_Sort_string_none Tryz.sort114 p cap W)⟩
def rd0 : Value → Option (DataW Unit × List MemPlace) := fun _ => some (.nil, [])
theorem ownsRow_sl {B w w' : World} {F : Assn} {Γ : List Assn} {v : Value} {l : List Nm} {E : TypeId} {n : Nat} (hS : Sat B F Γ w) (hb : Below w.heap.size w w') (h : w'.ownsRow w.heap.size E 1 v n (l.map encStr)) (hn : n = l.length) (hnil : v = .slice none 0 0 ↔ l = []) : Sat B F (sl E strE v l :: Γ) w' := by
  subst hn
  rcases h.2 with ⟨h1, h2⟩ | ⟨g, cap, cur, h1, h2, h3, h4, h5, h6, h7⟩
  · have hl : l = [] := List.length_eq_zero_iff.1 h2
    subst hl
    rw [hnil.2 rfl]
    exact sl_nil (hS.below hb)
  · subst h1
    refine sl_close (e := strE) (L := l) (hS.fresh hb h2 h3) h4 h5 h6 ?_
    have : flat strE l = l.map encStr := by
      clear h3 h4 h6 h7 hnil h
      induction l with
      | nil => rfl
      | cons x l ih => rw [flat_cons, ih]; rfl
    rw [this]; exact h7
theorem sorted_tr (b m : Nat) (l : List (Nm × FileS)) (hnd : (l.map (·.1)).Nodup) (hl : l.length ≤ 1000) (hk : ∀ p ∈ l, p.1.length ≤ 1000000) :
    Tr Tryz.prog 76 [.func (.func 115) #[] ⟨[.pointer (some ⟨b, 0, none⟩)]⟩] [blk b (.cells ⟨[.map (some m)]⟩ 84 (0, 0)), mp fmap m l]
      fun v Γ => Γ = [sl 9 strE v (sortN (l.map (·.1))), blk b (.cells ⟨[.map (some m)]⟩ 84 (0, 0)), mp fmap m l] := by
  refine Tr.intro fun B F w hS => ?_
  have hbk := (hS.blk .here).2
  obtain ⟨es, clock, hi, hS2⟩ := mp_open (hS.perm (.swap _ _ _))
  have hmb := (hS2.blk .here).2
  have hblt : b < w.heap.size := (Array.getElem?_eq_some_iff.1 hbk).1
  have hlen : es.size = l.length := by have := congrArg List.length hi.kv; simpa using this
  have hkey : ∀ x ∈ es.toList, ∃ p ∈ l, x.key = vs p.1 := fun x hx => by
    have : ekv x ∈ l.map (mkv fmap) := by rw [← hi.kv]; exact List.mem_map.2 ⟨x, hx, rfl⟩
    obtain ⟨p, hp, he⟩ := List.mem_map.1 this
    exact ⟨p, hp, (congrArg Prod.fst he).symm⟩
  have hkeys : es.toList.map (·.key) = (l.map (·.1)).map vs := by
    have := congrArg (List.map Prod.fst) hi.kv
    rw [List.map_map, List.map_map] at this
    rw [List.map_map]
    exact this
  have hrd : ∀ x ∈ es.toList, ∀ p, x.key = vs p → p.length ≤ 1000000 → WideElems.rd (H := Unit) Tryz.prog 9 rd0 x = some (.string p, .nil) := fun x hx p hp hpl => by
    unfold WideElems.rd
    rw [hp, WideMaps.keyOf_string_mk (P := Tryz.prog) (k := 9) (by kernel_rfl) (by rw [bs_size]; unfold maxLen; omega)]
    simp [rd0]
  have hfit : WideElems.Fit (H := Unit) Tryz.prog 9 rd0 es clock := by
    refine ⟨by rw [hlen]; unfold maxLen; omega, ⟨hi.lt, hi.nd, ?_⟩, fun x hx => ?_⟩
    · rw [hkeys]
      exact List.pairwise_map.2 (List.Pairwise.imp (fun h e => h (bs_inj.1 (Value.string.inj e))) hnd)
    · obtain ⟨p, hp, he⟩ := hkey x hx
      exact ⟨_, hrd x hx p.1 he (hk p hp)⟩
  have hrg : es.toList.map (WideElems.rg (H := Unit) Tryz.prog 9 rd0) = (l.map (·.1)).map fun n => (Lit.string n, DataW.nil) := by
    have h1 : ∀ (L : List MapEntry) (K : List (Nm × FileS)), (∀ x ∈ L, ∀ p, x.key = vs p → p.length ≤ 1000000 → WideElems.rd (H := Unit) Tryz.prog 9 rd0 x = some (.string p, .nil)) → (∀ p ∈ K, p.1.length ≤ 1000000) → L.map (·.key) = (K.map (·.1)).map vs → L.map (WideElems.rg (H := Unit) Tryz.prog 9 rd0) = (K.map (·.1)).map fun n => (Lit.string n, DataW.nil) := by
      intro L
      induction L with
      | nil => intro K _ _ h; cases K with | nil => rfl | cons _ _ => cases h
      | cons x L ih =>
        intro K hr hK h
        cases K with
        | nil => cases h
        | cons p K =>
          simp only [List.map_cons, List.cons.injEq] at h ⊢
          exact ⟨WideElems.rg_of (hr x (List.mem_cons_self ..) p.1 h.1 (hK p (List.mem_cons_self ..))), ih K (fun y hy => hr y (List.mem_cons_of_mem _ hy)) (fun q hq => hK q (List.mem_cons_of_mem _ hq)) h.2⟩
    exact h1 _ _ hrd hk hkeys
  let D0 : DataW Unit := .map ((es.toList.map (WideElems.rg (H := Unit) Tryz.prog 9 rd0)).foldr DataW.insert [])
  have hown : w.ownsMap Tryz.prog 9 rd0 m es.size D0 := ⟨es, clock, hmb, hfit, Nat.le_refl _, rfl⟩
  have hsz : Maps.size D0 = l.length := by
    show (List.foldr DataW.insert [] _).length = _
    rw [length_sorted, List.length_map, Array.length_toList, hlen]
  have hperm : (strKeys D0).Perm (l.map (·.1)) := by
    show (List.map _ (List.foldr DataW.insert [] _)).Perm _
    refine ((WideShapes.sorted_perm _).map _).trans ?_
    rw [hrg, List.map_map]
    exact List.Perm.of_eq (by simp only [List.map_map]; rfl)
  have hseq := AnyZ.keys_gives (ρ := Tryz.keys77_ren) { Tryz.keys77 with } Fence.wide 2 trivial rfl (by omega) b m es.size D0 (R := rd0) w hblt (cell_of hbk rfl) hown
  have hc := AnyZ.sorted_in Tryz.sorted76 Fence.wide 5 trivial trivial trivial trivial rfl (by omega) (sorts76 _) (enters_of Tryz.func114 (by kernel_rfl) rfl) 115 #[.pointer (some ⟨b, 0, none⟩)] trivial (enters_of Tryz.func115 (by kernel_rfl) rfl) _ (Maps.size D0) (by rw [hsz]; unfold maxLen; omega) (by rw [hsz]; omega) w hseq
  refine ((callsIn_wide (n := 5)).1 hc).mono ?_
  rintro e w' ⟨v, ss, rfl, hS', hrow, hnil, hb⟩
  have hsort : ss.mergeSort leN = sortN (l.map (·.1)) := by
    exact mergeSort_of_perm (hS'.trans hperm)
  refine ⟨v, _, rfl, rfl, ?_⟩
  rw [← hsort]
  have hnil2 : v = .slice none 0 0 ↔ ss.mergeSort leN = [] := by
    rw [hnil]
    constructor
    · rintro rfl; simp
    · intro h
      have := congrArg List.length h
      rw [List.length_mergeSort] at this
      exact List.length_eq_zero_iff.1 this
  exact ownsRow_sl hS hb hrow (by simp) hnil2
end Go.Proofs.YtaeefjcbmkiiaaaGreatDoor
