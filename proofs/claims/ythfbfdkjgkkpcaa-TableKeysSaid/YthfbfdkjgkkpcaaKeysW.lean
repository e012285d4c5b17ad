/-
  The sorted keys of a map of bytes by texts: the library's maps.Keys and slices.Sorted, by the shelf's contracts.
-/
import Derived.Test.YthfbfdkjgkkpcaaTspec
import Derived.Test.YthfbfdkjgkkpcaaShelf
namespace Go.Proofs.Ythfbfdkjgkkpcaa
open Go Go.RowKit Go.Maps Go.Sort

/-- How an element reads: it is not looked into. -/
def blindR (_ : Value) : Option (DataW Unit × List MemPlace) := some (.lit (.bool true), [])
def leK : List UInt8 → List UInt8 → Bool := fun x y => decide (x ≤ y)
/-- The keys in order. -/
def sortK (m : List (List UInt8 × List UInt8)) : List (List UInt8) := (m.map (·.1)).mergeSort leK

theorem keyOf_enc (k : List UInt8) (h : k.length ≤ maxLen) : keyOf Try.prog 9 (encS k) = some (.string k) := by
  have hu : Try.prog.underlying 9 = some .string := by kernel_rfl
  have hs : ByteArray.size ⟨k.toArray⟩ ≤ maxLen := by simpa [ByteArray.size] using h
  simp [keyOf, hu, mapKey, hs]
theorem ownsMap_of {w : World} {mb : Nat} {es : List (List UInt8 × Value)} (h : MapW w mb es) (hk : ∀ p ∈ es, p.1.length ≤ maxLen) (hn : es.length ≤ maxLen) :
    ∃ D : DataW Unit, w.ownsMap Try.prog 9 blindR mb es.length D ∧ Maps.size D = es.length ∧ (strKeys D).Perm (es.map (·.1)) := by
  obtain ⟨arr, clock, hb, hE, hbn, hbl⟩ := h.ex
  have hlen : arr.toList.length = es.length := ents_length hE
  have hrd : ∀ (l : List MapEntry) (q : List (List UInt8 × Value)), Ents l q → (∀ p ∈ q, p.1.length ≤ maxLen) → l.map (WideElems.rg Try.prog 9 blindR) = q.map (fun p => (Lit.string p.1, DataW.lit (.bool true))) ∧ ∀ x ∈ l, ∃ y, WideElems.rd Try.prog 9 blindR x = some y := by
    intro l
    induction l with
    | nil => intro q hq _; cases q with
      | nil => exact ⟨rfl, by simp⟩
      | cons _ _ => cases hq
    | cons x l ih =>
      intro q hq hk
      cases q with
      | nil => cases hq
      | cons p q =>
        simp only [Ents, List.map_cons, List.cons.injEq, Prod.mk.injEq] at hq
        obtain ⟨⟨h1, h2⟩, h3⟩ := hq
        obtain ⟨i1, i2⟩ := ih q h3 (fun p hp => hk p (List.mem_cons_of_mem _ hp))
        have hx : WideElems.rd Try.prog 9 blindR x = some (Lit.string p.1, DataW.lit (.bool true)) := by
          unfold WideElems.rd
          rw [h1, keyOf_enc p.1 (hk p (by simp))]
          rfl
        refine ⟨?_, fun y hy => ?_⟩
        · rw [List.map_cons, List.map_cons, i1]
          unfold WideElems.rg
          rw [hx]
          rfl
        · rcases List.mem_cons.1 hy with rfl | hy
          · exact ⟨_, hx⟩
          · exact i2 y hy
  obtain ⟨hrg, hreads⟩ := hrd arr.toList es hE hk
  have hkeys : arr.toList.map (·.key) = es.map (fun p => encS p.1) := by
    have := congrArg (List.map Prod.fst) hE
    simpa [List.map_map, Function.comp_def] using this
  refine ⟨.map ((arr.toList.map (WideElems.rg Try.prog 9 blindR)).foldr DataW.insert []), ⟨arr, clock, hb, ⟨?_, ?_, ?_⟩, ?_, rfl⟩, ?_, ?_⟩
  · rw [← Array.length_toList, hlen]; exact hn
  · rw [MapKept.stamped_iff]
    refine ⟨fun x hx => hbl _ (List.mem_map_of_mem hx), hbn, ?_⟩
    have hnd : (arr.toList.map (·.key)).Nodup := by
      rw [hkeys]
      have := h.nodup
      rw [List.nodup_iff_pairwise_ne, List.pairwise_map] at this ⊢
      exact this.imp (fun hne he => hne (encS_inj he))
    rw [List.nodup_iff_pairwise_ne, List.pairwise_map] at hnd
    exact hnd
  · exact hreads
  · rw [← Array.length_toList, hlen]
    exact Nat.le_refl _
  · show List.length _ = _
    rw [(WideShapes.sorted_perm _).length_eq, hrg]
    simp
  · show (List.map (fun (p : Lit × DataW Unit) => strOf p.1) _).Perm _
    refine ((WideShapes.sorted_perm _).map _).trans ?_
    rw [hrg]
    simp [List.map_map, Function.comp_def, strOf]
theorem sortK_perm {l l' : List (List UInt8)} (h : l.Perm l') : l.mergeSort leK = l'.mergeSort leK := mergeSort_of_perm h

/-- maps.Keys' function value over a block. -/
abbrev keysV (b : Nat) : Value := .func (.func 64) #[] #[.pointer (some ⟨b, 0, none⟩)]
theorem maps_keys (w : World) (mb : Nat) : Calls Try.prog 35 #[.map (some mb)] w fun e w' => e = .returned (keysV w.heap.size) ∧ w' = w.alloc (.cells #[.map (some mb)] 68) :=
  callsIn_wide.1 (Try.maps_Keys_35 (some mb) w)
theorem sorted_keys (w : World) (mb : Nat) (m : List (List UInt8 × List UInt8)) (hM : MapB w mb m) (hk : ∀ p ∈ m, p.1.length ≤ maxLen) (hn : m.length ≤ 1000000000) :
    Calls Try.prog 34 #[keysV w.heap.size] (w.alloc (.cells #[.map (some mb)] 68)) fun e w' => ∃ v, e = .returned v ∧
      w'.ownsRow w.heap.size 9 1 v m.length ((sortK m).map encS) ∧ Upd [] (w.alloc (.cells #[.map (some mb)] 68)) w' := by
  obtain ⟨es, m', hW, hV, hP⟩ := hM
  have hkeys : (es.map (·.1)).Perm (m.map (·.1)) := by rw [hV.keys]; exact hP.map _
  have hlen : es.length = m.length := by have := hkeys.length_eq; simpa using this
  have hk' : ∀ p ∈ es, p.1.length ≤ maxLen := by
    intro p hp
    have h1 : p.1 ∈ m.map (·.1) := hkeys.subset (List.mem_map_of_mem hp)
    obtain ⟨q, hq, he⟩ := List.mem_map.1 h1
    rw [← he]; exact hk q hq
  obtain ⟨D, hown, hsz, hst⟩ := ownsMap_of hW hk' (by rw [hlen]; unfold maxLen; omega)
  have hc := callsIn_wide.1 (Try.slices_Sorted_keys_34_35 mb es.length D blindR w hown (by rw [hsz, hlen]; unfold maxLen; omega) (by rw [hsz, hlen]; omega))
  refine hc.mono ?_
  rintro e w' ⟨v, ss, rfl, hp, hrow, _, hbel⟩
  have hpm : ss.Perm (m.map (·.1)) := (hp.trans hst).trans hkeys
  have hl : ss.length = m.length := by have := hpm.length_eq; simpa using this
  have e1 : (ss.mergeSort (fun x y => decide (x ≤ y))).map encStr = (sortK m).map encS := by
    rw [show ss.mergeSort (fun x y => decide (x ≤ y)) = sortK m from sortK_perm hpm]
  rw [e1, hl] at hrow
  exact ⟨v, rfl, Own.mono hrow (by simp), Upd.of_below hbel⟩
end Go.Proofs.Ythfbfdkjgkkpcaa
