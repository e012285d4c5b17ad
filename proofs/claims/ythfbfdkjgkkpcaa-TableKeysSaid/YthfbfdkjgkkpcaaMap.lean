/-
  Maps keyed by strings: how a block reads as a list of pairs, and the walk's laws of the operations on it.
-/
import Derived.Test.YthfbfdkjgkkpcaaOps
import Derived.Test.YthfbfdkjgkkpcaaFm
import Derived.MapKept
namespace Go.Proofs.Ythfbfdkjgkkpcaa
open Go Go.RowKit

/-- The entries of a map's array, as pairs. -/
def Ents (arr : List MapEntry) (es : List (List UInt8 × Value)) : Prop := arr.map (fun e => (e.key, e.val)) = es.map (fun p => (encS p.1, p.2))
structure MapW (w : World) (mb : Nat) (es : List (List UInt8 × Value)) : Prop where
  ex : ∃ (arr : Array MapEntry) (clock : Nat), w.heap[mb]? = some (.map arr clock) ∧ Ents arr.toList es ∧ (arr.toList.map (·.born)).Nodup ∧ (∀ b ∈ arr.toList.map (·.born), b < clock)
  nodup : (es.map (·.1)).Nodup

theorem MapW.lt {w : World} {mb : Nat} {es : List (List UInt8 × Value)} (h : MapW w mb es) : mb < w.heap.size := by
  obtain ⟨arr, clock, hb, _⟩ := h.ex
  exact lt_of_get hb
theorem MapW.upd {S : List Nat} {w w' : World} {mb : Nat} {es : List (List UInt8 × Value)} (h : MapW w mb es) (hU : Upd S w w') (hn : mb ∉ S) : MapW w' mb es := by
  obtain ⟨arr, clock, hb, r⟩ := h.ex
  exact ⟨⟨arr, clock, hU.get hb hn, r⟩, h.nodup⟩
theorem MapW.off {w : World} {mb : Nat} {es : List (List UInt8 × Value)} (h : MapW w mb es) {e : TypeId} {S : List Nat} (hS : Off w e S) : Off w e (mb :: S) := by
  obtain ⟨arr, clock, hb, _⟩ := h.ex
  exact Off.cons_map hb hS

theorem encS_inj {a b : List UInt8} (h : encS a = encS b) : a = b := by
  simp only [encS, Value.string.injEq, ByteArray.mk.injEq] at h
  simpa using congrArg Array.toList h
theorem beq_str (a b : List UInt8) : ((⟨a.toArray⟩ : ByteArray) == ⟨b.toArray⟩) = decide (a = b) := by
  rw [Bool.eq_iff_iff, Go.MapKept.bytes_beq, decide_eq_true_iff]
  constructor
  · intro h; exact encS_inj (congrArg Value.string h)
  · intro h; rw [h]

/-- Looking for a key among the entries. -/
theorem find_ents (k : List UInt8) : ∀ (arr : List MapEntry) (es : List (List UInt8 × Value)) (i : Nat), Ents arr es →
    (aget k es = none ∧ Instr.findNow .string (encS k) arr i = some none) ∨
    (∃ j v, aget k es = some v ∧ Instr.findNow .string (encS k) arr i = some (some (i + j, v)) ∧ ∃ e, arr[j]? = some e ∧ e.key = encS k ∧ e.val = v ∧
      (∀ v', Ents (arr.modify j fun e => { e with key := encS k, val := v' }) (aput k v' es)) ∧ Ents (arr.eraseIdx j) (adel k es)) := by
  intro arr
  induction arr with
  | nil =>
    intro es i h
    cases es with
    | nil => exact .inl ⟨rfl, rfl⟩
    | cons p r => simp [Ents] at h
  | cons e arr ih =>
    intro es i h
    cases es with
    | nil => simp [Ents] at h
    | cons p r =>
      simp only [Ents, List.map_cons, List.cons.injEq, Prod.mk.injEq] at h
      obtain ⟨⟨h1, h2⟩, h3⟩ := h
      have hs : Instr.sameNow .string (encS k) e.key = some (decide (k = p.1)) := by
        rw [h1]; simp only [Instr.sameNow, beq_str]
      by_cases hk : p.1 = k
      · right
        refine ⟨0, e.val, by simp [aget, hk, h2], ?_, e, rfl, by rw [h1, hk], rfl, ?_, ?_⟩
        · simp [Instr.findNow, hs, hk]
        · intro v'
          simp [Ents, List.modify, aput, hk, h3]
        · simp [Ents, adel, hk, h3]
      · have hs' : Instr.sameNow .string (encS k) e.key = some false := by rw [hs]; simp; exact fun h => hk h.symm
        rcases ih r (i + 1) h3 with ⟨g1, g2⟩ | ⟨j, v, g1, g2, e', g3, g4, g5, g6, g7⟩
        · left
          refine ⟨by simp [aget, hk, g1], ?_⟩
          simp only [Instr.findNow, hs']
          exact g2
        · right
          refine ⟨j + 1, v, by simp [aget, hk, g1], ?_, e', by simpa using g3, g4, g5, ?_, ?_⟩
          · simp only [Instr.findNow, hs', g2]
            congr 3
            omega
          · intro v'
            have := g6 v'
            simp only [Ents, List.modify_succ_cons, List.map_cons, aput, if_neg hk] at this ⊢
            rw [this, h1, h2]
          · simp only [Ents, List.eraseIdx_cons_succ, List.map_cons, adel, if_neg hk] at g7 ⊢
            rw [g7, h1, h2]

/-- M is a type of maps keyed by strings, V that of its elements, whose zero value is z. -/
structure MapT (P : Program) (M V : Nat) (z : Value) : Prop where
  ex : ∃ K, P.underlying M = some (.map K V) ∧ P.underlying K = some .string
  zero : ∃ i, P.info? V = some i ∧ i.zero = some z

section
variable {P : Program} {ops : Array Oper} {Q : Exit → Act → World → Prop} {a : Act} {w : World} {rest : List Oper} {o : Oper}

theorem run_checkKey_s {K : Nat} (hK : P.underlying K = some .string) (b : Bool) (d : Nat) (k : List UInt8) (w : World) : (Instr.checkKey b (d + 1) K (encS k)).run P w = .ok () w := by
  simp [Instr.checkKey, run_underlying hK, Result.andThen]
theorem run_findKey_s {K : Nat} (hK : P.underlying K = some .string) (k : List UInt8) {arr : List MapEntry} {r : Option (Nat × Value)} (h : Instr.findNow .string (encS k) arr 0 = some r) (w : World) :
    (Instr.findKey K (encS k) arr).run P w = .ok r w := by
  simp [Instr.findKey, run_underlying hK, Result.andThen, h]

theorem run_lookup_s {M V : Nat} {z : Value} (hM : MapT P M V z) {mb : Nat} {es : List (List UInt8 × Value)} (h : MapW w mb es) (k : List UInt8) (ok : Bool) :
    (Instr.lookup M (.map (some mb)) (encS k) ok).run P w = .ok (if ok then .tuple #[(aget k es).getD z, .bool (aget k es).isSome] else (aget k es).getD z) w := by
  obtain ⟨K, hu, hK⟩ := hM.ex
  obtain ⟨i, hi, hz⟩ := hM.zero
  obtain ⟨arr, clock, hb, he, _⟩ := h.ex
  have hc := run_checkKey_s hK arr.isEmpty 9999 k w
  have hg : (getObj mb).run P w = .ok (.map arr clock) w := MapKept.run_getObj_map hb
  rcases find_ents k arr.toList es 0 he with ⟨g1, g2⟩ | ⟨j, v, g1, g2, _⟩
  · have hf := run_findKey_s (P := P) hK k g2 w
    rw [g1]
    cases ok <;> simp [Instr.lookup, run_underlying hu, hg, hc, hf, Result.andThen, zeroValue, typeInfo, hi, hz]
  · have hf := run_findKey_s (P := P) hK k g2 w
    rw [g1]
    cases ok <;> simp [Instr.lookup, run_underlying hu, hg, hc, hf, Result.andThen]

/-- m[k]. -/
theorem wpl_lookup {M V : Nat} {z : Value} (hM : MapT P M V z) (hw : Region.wanted o (yielded ops a.tmps) = true) {m x : Operand} (ho : o.op = .lookup M m x false)
    {mb : Nat} {es : List (List UInt8 × Value)} (h : MapW w mb es) (hm : a.eval m = .map (some mb)) (k : List UInt8) (hk : a.eval x = encS k)
    (v : Value) (hv : (aget k es).getD z = v) (hK : wpList P ops Q rest (a.put o.dst v) w) : wpList P ops Q (o :: rest) a w := by
  subst hv
  refine wpl_run hw ?_ hK
  simp [execOp, ho, hm, hk, run_lookup_s hM h, Result.andThen]
/-- v, ok := m[k]. -/
theorem wpl_lookup_ok {M V : Nat} {z : Value} (hM : MapT P M V z) (hw : Region.wanted o (yielded ops a.tmps) = true) {m x : Operand} (ho : o.op = .lookup M m x true)
    {mb : Nat} {es : List (List UInt8 × Value)} (h : MapW w mb es) (hm : a.eval m = .map (some mb)) (k : List UInt8) (hk : a.eval x = encS k)
    (v : Value) (hv : (aget k es).getD z = v) (b : Bool) (hb : (aget k es).isSome = b) (hK : wpList P ops Q rest (a.put o.dst (.tuple #[v, .bool b])) w) : wpList P ops Q (o :: rest) a w := by
  subst hv
  subst hb
  refine wpl_run hw ?_ hK
  simp [execOp, ho, hm, hk, run_lookup_s hM h, Result.andThen]

theorem aput_keys {α : Type} (k : List UInt8) (v : α) (es : List (List UInt8 × α)) : (aput k v es).map (·.1) = if (aget k es).isSome then es.map (·.1) else es.map (·.1) ++ [k] := by
  induction es with
  | nil => simp [aput, aget]
  | cons p r ih =>
    by_cases h : p.1 = k
    · simp [aput, aget, h]
    · simp only [aput, aget, if_neg h, List.map_cons, ih]
      split <;> simp
theorem aput_nodup {α : Type} (k : List UInt8) (v : α) {es : List (List UInt8 × α)} (h : (es.map (·.1)).Nodup) : ((aput k v es).map (·.1)).Nodup := by
  rw [aput_keys]
  split
  · exact h
  · rename_i hn
    have hn' : aget k es = none := by simpa using hn
    rw [List.nodup_append]
    refine ⟨h, by simp, ?_⟩
    intro x hx y hy e
    simp only [List.mem_singleton] at hy
    exact aget_none.1 hn' (hy ▸ e ▸ hx)
theorem adel_sublist {α : Type} (k : List UInt8) (es : List (List UInt8 × α)) : (adel k es).Sublist es := by
  induction es with
  | nil => exact List.Sublist.refl _
  | cons p r ih =>
    by_cases h : p.1 = k
    · simp only [adel, if_pos h]; exact List.sublist_cons_self _ _
    · simp only [adel, if_neg h]; exact ih.cons_cons _
theorem adel_none {α : Type} {k : List UInt8} {es : List (List UInt8 × α)} (h : aget k es = none) : adel k es = es := by
  induction es with
  | nil => rfl
  | cons p r ih =>
    by_cases hp : p.1 = k
    · simp [aget, hp] at h
    · simp only [aget, if_neg hp] at h
      simp only [adel, if_neg hp, ih h]
theorem aput_none {α : Type} {k : List UInt8} {v : α} {es : List (List UInt8 × α)} (h : aget k es = none) : aput k v es = es ++ [(k, v)] := by
  induction es with
  | nil => rfl
  | cons p r ih =>
    by_cases hp : p.1 = k
    · simp [aget, hp] at h
    · simp only [aget, if_neg hp] at h
      simp only [aput, if_neg hp, ih h, List.cons_append]

theorem setMap_upd {mb : Nat} {arr : Array MapEntry} {clock : Nat} (hb : w.heap[mb]? = some (.map arr clock)) (o' : Obj) : Upd [mb] w { w with heap := w.heap.setIfInBounds mb o' } := by
  refine ⟨rfl, rfl, rfl, by simp, fun k hk hn => ?_⟩
  simp only [Array.getElem?_setIfInBounds]
  rw [if_neg (by simp at hn; omega)]
theorem setMap_get {mb : Nat} {arr : Array MapEntry} {clock : Nat} (hb : w.heap[mb]? = some (.map arr clock)) (o' : Obj) : ({ w with heap := w.heap.setIfInBounds mb o' } : World).heap[mb]? = some o' := by
  have := lt_of_get hb
  simp [this]

theorem mapw_set {mb : Nat} {arr arr' : Array MapEntry} {clock clock' : Nat} {es' : List (List UInt8 × Value)} (hb : w.heap[mb]? = some (.map arr clock)) (he : Ents arr'.toList es') (hn : (arr'.toList.map (·.born)).Nodup)
    (hl : ∀ b ∈ arr'.toList.map (·.born), b < clock') (hd : (es'.map (·.1)).Nodup) :
    MapW { w with heap := w.heap.setIfInBounds mb (.map arr' clock') } mb es' ∧ Upd [mb] w { w with heap := w.heap.setIfInBounds mb (.map arr' clock') } :=
  ⟨⟨⟨arr', clock', setMap_get hb _, he, hn, hl⟩, hd⟩, setMap_upd hb _⟩
theorem born_modify (f : MapEntry → MapEntry) (hf : ∀ e, (f e).born = e.born) : ∀ (l : List MapEntry) (j : Nat), (l.modify j f).map (·.born) = l.map (·.born) := by
  intro l
  induction l with
  | nil => intro j; simp
  | cons e l ih =>
    intro j
    cases j with
    | zero => simp [List.modify_zero_cons, hf]
    | succ j => simp [List.modify_succ_cons, ih]

theorem run_mapUpdate_s {M V : Nat} {z : Value} (hM : MapT P M V z) {mb : Nat} {es : List (List UInt8 × Value)} (h : MapW w mb es) (k : List UInt8) (v : Value) :
    ∃ w', (Instr.mapUpdate M (.map (some mb)) (encS k) v).run P w = .ok () w' ∧ MapW w' mb (aput k v es) ∧ Upd [mb] w w' := by
  obtain ⟨K, hu, hK⟩ := hM.ex
  obtain ⟨arr, clock, hb, he, hbn, hbl⟩ := h.ex
  have hc := run_checkKey_s hK false 9999 k w
  have hg : (getObj mb).run P w = .ok (.map arr clock) w := MapKept.run_getObj_map hb
  rcases find_ents k arr.toList es 0 he with ⟨g1, g2⟩ | ⟨j, v0, g1, g2, e', g3, g4, g5, g6, g7⟩
  · have hf := run_findKey_s (P := P) hK k g2 w
    have hs := MapKept.run_setObj_map (P := P) (w := w) (.map (arr.push { key := encS k, val := v, born := clock }) (clock + 1)) hb
    have hW := mapw_set (w := w) (arr' := arr.push { key := encS k, val := v, born := clock }) (clock' := clock + 1) (es' := aput k v es) hb (by
      rw [aput_none g1]
      simp only [Ents, Array.toList_push, List.map_append, List.map_cons, List.map_nil] at he ⊢
      rw [he]) (by
      simp only [Array.toList_push, List.map_append, List.map_cons, List.map_nil]
      rw [List.nodup_append]
      refine ⟨hbn, by simp, ?_⟩
      intro x hx y hy e
      simp only [List.mem_singleton] at hy
      have := hbl x hx
      omega) (by
      intro b hb'
      simp only [Array.toList_push, List.map_append, List.map_cons, List.map_nil, List.mem_append, List.mem_singleton] at hb'
      rcases hb' with hb' | rfl
      · have := hbl b hb'; omega
      · exact Nat.lt_succ_self _) (aput_nodup k v h.nodup)
    exact ⟨_, by simp [Instr.mapUpdate, run_underlying hu, hg, hc, hf, hs, Result.andThen], hW⟩
  · have hf := run_findKey_s (P := P) hK k g2 w
    have hj : arr[j]? = some e' := by simpa using g3
    rw [Nat.zero_add] at hf
    have hks : (Instr.keyThatStays (encS k) (encS k)).run P w = .ok (encS k) w := by
      have hb : ((⟨k.toArray⟩ : ByteArray) == ⟨k.toArray⟩) = true := by rw [beq_str]; simp
      simp [Instr.keyThatStays, Instr.sameBits, hb]
    have hs := MapKept.run_setObj_map (P := P) (w := w) (.map (arr.modify j fun e => { e with key := encS k, val := v }) clock) hb
    have hbm := born_modify (fun e => { e with key := encS k, val := v }) (fun _ => rfl) arr.toList j
    have hW := mapw_set (w := w) (arr' := arr.modify j fun e => { e with key := encS k, val := v }) (clock' := clock) (es' := aput k v es) hb
      (by rw [Array.toList_modify]; exact g6 v) (by rw [Array.toList_modify, hbm]; exact hbn) (by rw [Array.toList_modify, hbm]; exact hbl) (aput_nodup k v h.nodup)
    exact ⟨_, by simp [Instr.mapUpdate, run_underlying hu, hg, hc, hf, hj, g4, hks, hs, Result.andThen], hW⟩

theorem wpl_mapUpdate {M V : Nat} {z : Value} (hM : MapT P M V z) (hw : Region.wanted o (yielded ops a.tmps) = true) {m x y : Operand} (ho : o.op = .mapUpdate M m x y)
    {mb : Nat} {es : List (List UInt8 × Value)} (h : MapW w mb es) (hm : a.eval m = .map (some mb)) (k : List UInt8) (hk : a.eval x = encS k) {v : Value} (hv : a.eval y = v)
    (hK : ∀ w', MapW w' mb (aput k v es) → Upd [mb] w w' → wpList P ops Q rest (a.put o.dst undef) w') : wpList P ops Q (o :: rest) a w := by
  obtain ⟨w', hr, h1, h2⟩ := run_mapUpdate_s hM h k v
  refine wpl_skip hw (w' := w') ?_ (hK w' h1 h2)
  simp [execOp, ho, hm, hk, hv, hr, Result.andThen]

theorem run_delete_s {M V ty : Nat} {z : Value} (hM : MapT P M V z) {K : Nat} {mb : Nat} {es : List (List UInt8 × Value)} (h : MapW w mb es) (k : List UInt8) :
    ∃ w', (Builtin.delete_ #[M, K] ty #[.map (some mb), encS k]).run P w = .ok (.tuple #[]) w' ∧ MapW w' mb (adel k es) ∧ Upd [mb] w w' := by
  obtain ⟨K', hu, hK⟩ := hM.ex
  obtain ⟨arr, clock, hb, he, hbn, hbl⟩ := h.ex
  have hc := run_checkKey_s hK arr.isEmpty 9999 k w
  have hg : (getObj mb).run P w = .ok (.map arr clock) w := MapKept.run_getObj_map hb
  have hnd : ((adel k es).map (·.1)).Nodup := h.nodup.sublist ((adel_sublist k es).map _)
  rcases find_ents k arr.toList es 0 he with ⟨g1, g2⟩ | ⟨j, v0, g1, g2, e', g3, g4, g5, g6, g7⟩
  · have hf := run_findKey_s (P := P) hK k g2 w
    have hs := MapKept.run_setObj_map (P := P) (w := w) (.map arr clock) hb
    have hW := mapw_set (w := w) (arr' := arr) (clock' := clock) (es' := adel k es) hb (by rw [adel_none g1]; exact he) hbn hbl hnd
    exact ⟨_, by simp [Builtin.delete_, run_underlying hu, hg, hc, hf, hs, Result.andThen], hW⟩
  · have hf := run_findKey_s (P := P) hK k g2 w
    rw [Nat.zero_add] at hf
    have hs := MapKept.run_setObj_map (P := P) (w := w) (.map (arr.eraseIdxIfInBounds j) clock) hb
    have e1 : (arr.eraseIdxIfInBounds j).toList = arr.toList.eraseIdx j := by
      unfold Array.eraseIdxIfInBounds
      split
      · simp
      · rename_i hn
        rw [List.eraseIdx_of_length_le (by simpa using hn)]
    have hsub : ((arr.toList.eraseIdx j).map (·.born)).Sublist (arr.toList.map (·.born)) := (List.eraseIdx_sublist _ _).map _
    have hW := mapw_set (w := w) (arr' := arr.eraseIdxIfInBounds j) (clock' := clock) (es' := adel k es) hb (by rw [e1]; exact g7) (by rw [e1]; exact hbn.sublist hsub) (by rw [e1]; exact fun b hb' => hbl b (hsub.subset hb')) hnd
    exact ⟨_, by simp [Builtin.delete_, run_underlying hu, hg, hc, hf, hs, Result.andThen], hW⟩

theorem wpl_delete {M V K : Nat} {z : Value} (hM : MapT P M V z) (hw : Region.wanted o (yielded ops a.tmps) = true) {m x : Operand} (ho : o.op = .call { callee := .builtin .delete, args := #[m, x], argTypes := #[M, K] })
    {mb : Nat} {es : List (List UInt8 × Value)} (h : MapW w mb es) (hm : a.eval m = .map (some mb)) (k : List UInt8) (hk : a.eval x = encS k)
    (hK : ∀ w', MapW w' mb (adel k es) → Upd [mb] w w' → wpList P ops Q rest (a.put o.dst (.tuple #[])) w') : wpList P ops Q (o :: rest) a w := by
  obtain ⟨w', hr, h1, h2⟩ := run_delete_s (ty := o.type) (K := K) hM h k
  refine wpl_run hw (w' := w') ?_ (hK w' h1 h2)
  simp [execOp, ho, resolve, invoke, builtin, hm, hk, hr, Result.andThen]

theorem ents_length {arr : List MapEntry} {es : List (List UInt8 × Value)} (h : Ents arr es) : arr.length = es.length := by
  have := congrArg List.length h
  simpa using this
theorem wpl_len {M V : Nat} {z : Value} (hM : MapT P M V z) (hw : Region.wanted o (yielded ops a.tmps) = true) {m : Operand} (ho : o.op = .call { callee := .builtin .len, args := #[m], argTypes := #[M] })
    {mb : Nat} {es : List (List UInt8 × Value)} (h : MapW w mb es) (hm : a.eval m = .map (some mb))
    (hK : wpList P ops Q rest (a.put o.dst (.int .i64 es.length)) w) : wpList P ops Q (o :: rest) a w := by
  obtain ⟨arr, clock, hb, he, _⟩ := h.ex
  have hg : (getObj mb).run P w = .ok (.map arr clock) w := MapKept.run_getObj_map hb
  have hl : arr.size = es.length := by rw [← ents_length he]; simp
  obtain ⟨K', hu, hK'⟩ := hM.ex
  refine wpl_run hw (w' := w) ?_ hK
  simp [execOp, ho, resolve, invoke, builtin, Builtin.len_, hm, run_underlying hu, hg, hl, Result.andThen, goInt]
end
end Go.Proofs.Ythfbfdkjgkkpcaa
