/-
  Lists of pairs by keys, plainly: files by names, values by keys; the order of the entries, and what is the same in whatever order.
-/
import Derived.KernelRfl
namespace Go.Proofs.Ythfbfdkjgkkpcaa

section
variable {α : Type}
/-- What stands at a key. -/
def aget (k : List UInt8) : List (List UInt8 × α) → Option α
  | [] => none
  | p :: r => if p.1 = k then some p.2 else aget k r
/-- A key gets a value: in its place, or at the end. -/
def aput (k : List UInt8) (v : α) : List (List UInt8 × α) → List (List UInt8 × α)
  | [] => [(k, v)]
  | p :: r => if p.1 = k then (k, v) :: r else p :: aput k v r
/-- A key is taken away. -/
def adel (k : List UInt8) : List (List UInt8 × α) → List (List UInt8 × α)
  | [] => []
  | p :: r => if p.1 = k then r else p :: adel k r
/-- All but a key. -/
def fdel (k : List UInt8) : List (List UInt8 × α) → List (List UInt8 × α)
  | [] => []
  | p :: r => if p.1 = k then fdel k r else p :: fdel k r
/-- A pair in the order of keys. -/
def fins (q : List UInt8 × α) : List (List UInt8 × α) → List (List UInt8 × α)
  | [] => [q]
  | p :: r => if q.1 < p.1 then q :: p :: r else p :: fins q r
/-- A key gets a value, in the order of keys. -/
def fput (k : List UInt8) (v : α) (m : List (List UInt8 × α)) : List (List UInt8 × α) := fins (k, v) (fdel k m)

theorem fins_perm (q : List UInt8 × α) (m : List (List UInt8 × α)) : (fins q m).Perm (q :: m) := by
  induction m with
  | nil => exact List.Perm.refl _
  | cons p r ih =>
    unfold fins
    split
    · exact List.Perm.refl _
    · exact (ih.cons p).trans (List.Perm.swap q p r)
theorem fput_perm (k : List UInt8) (v : α) (m : List (List UInt8 × α)) : (fput k v m).Perm ((k, v) :: fdel k m) := fins_perm _ _
theorem fdel_eq_filter (k : List UInt8) (m : List (List UInt8 × α)) : fdel k m = m.filter (fun p => decide (p.1 ≠ k)) := by
  induction m with
  | nil => rfl
  | cons p r ih =>
    by_cases h : p.1 = k
    · simp [fdel, h, ih]
    · simp [fdel, h, ih]
theorem fdel_perm {k : List UInt8} {m m' : List (List UInt8 × α)} (h : m.Perm m') : (fdel k m).Perm (fdel k m') := by
  rw [fdel_eq_filter, fdel_eq_filter]; exact h.filter _
theorem fput_perm_of {k : List UInt8} {v : α} {m m' : List (List UInt8 × α)} (h : m.Perm m') : (fput k v m).Perm (fput k v m') :=
  (fput_perm k v m).trans (((fdel_perm h).cons _).trans (fput_perm k v m').symm)
theorem fdel_none {k : List UInt8} {m : List (List UInt8 × α)} (h : k ∉ m.map (·.1)) : fdel k m = m := by
  rw [fdel_eq_filter, List.filter_eq_self]
  intro p hp
  simp only [ne_eq, decide_eq_true_eq]
  intro e
  exact h (e ▸ List.mem_map_of_mem hp)
theorem aget_none {k : List UInt8} {es : List (List UInt8 × α)} : aget k es = none ↔ k ∉ es.map (·.1) := by
  induction es with
  | nil => simp [aget]
  | cons p r ih =>
    by_cases h : p.1 = k
    · simp [aget, h]
    · simp only [aget, if_neg h, ih, List.map_cons, List.mem_cons, not_or]
      exact ⟨fun g => ⟨fun e => h e.symm, g⟩, fun g => g.2⟩
theorem aget_some {k : List UInt8} {v : α} {es : List (List UInt8 × α)} (hn : (es.map (·.1)).Nodup) : aget k es = some v ↔ (k, v) ∈ es := by
  induction es with
  | nil => simp [aget]
  | cons p r ih =>
    simp only [List.map_cons, List.nodup_cons] at hn
    by_cases h : p.1 = k
    · simp only [aget, if_pos h, Option.some.injEq, List.mem_cons]
      constructor
      · intro e; left; rw [← e, ← h]
      · rintro (e | e)
        · rw [← e]
        · exact absurd (h ▸ List.mem_map_of_mem (f := (·.1)) e) hn.1
    · simp only [aget, if_neg h, ih hn.2, List.mem_cons]
      constructor
      · exact .inr
      · rintro (e | e)
        · exact absurd (by rw [← e]) h
        · exact e
theorem aget_perm {k : List UInt8} {m m' : List (List UInt8 × α)} (h : m.Perm m') (hn : (m.map (·.1)).Nodup) : aget k m = aget k m' := by
  have hn' : (m'.map (·.1)).Nodup := (h.map _).nodup_iff.1 hn
  cases h1 : aget k m with
  | none =>
    rw [aget_none] at h1
    exact (aget_none.2 (fun hm => h1 ((h.map _).mem_iff.2 hm))).symm
  | some v => exact ((aget_some hn').2 (h.mem_iff.1 ((aget_some hn).1 h1))).symm
theorem adel_eq {k : List UInt8} {m : List (List UInt8 × α)} (hn : (m.map (·.1)).Nodup) : adel k m = fdel k m := by
  induction m with
  | nil => rfl
  | cons p r ih =>
    simp only [List.map_cons, List.nodup_cons] at hn
    by_cases h : p.1 = k
    · simp only [adel, fdel, if_pos h]
      rw [fdel_none]
      rw [← h]; exact hn.1
    · simp only [adel, fdel, if_neg h, ih hn.2]
theorem aput_perm {k : List UInt8} {v : α} {m : List (List UInt8 × α)} (hn : (m.map (·.1)).Nodup) : (aput k v m).Perm (fput k v m) := by
  refine List.Perm.trans ?_ (fput_perm k v m).symm
  induction m with
  | nil => exact List.Perm.refl _
  | cons p r ih =>
    simp only [List.map_cons, List.nodup_cons] at hn
    by_cases h : p.1 = k
    · simp only [aput, fdel, if_pos h]
      rw [fdel_none (h ▸ hn.1)]
    · simp only [aput, fdel, if_neg h]
      exact ((ih hn.2).cons p).trans (List.Perm.swap _ _ _)
theorem fdel_keys (k : List UInt8) (m : List (List UInt8 × α)) : ((fdel k m).map (·.1)) = (m.map (·.1)).filter (fun x => decide (x ≠ k)) := by
  rw [fdel_eq_filter, List.filter_map]; rfl
theorem fput_nodup {k : List UInt8} {v : α} {m : List (List UInt8 × α)} (hn : (m.map (·.1)).Nodup) : ((fput k v m).map (·.1)).Nodup := by
  rw [((fput_perm k v m).map _).nodup_iff]
  simp only [List.map_cons, List.nodup_cons, fdel_keys]
  exact ⟨by simp, hn.filter _⟩
theorem fdel_nodup {k : List UInt8} {m : List (List UInt8 × α)} (hn : (m.map (·.1)).Nodup) : ((fdel k m).map (·.1)).Nodup := by
  rw [fdel_keys]; exact hn.filter _
theorem aget_fput (k k' : List UInt8) (v : α) {m : List (List UInt8 × α)} (hn : (m.map (·.1)).Nodup) : aget k' (fput k v m) = if k = k' then some v else aget k' m := by
  rw [aget_perm (fput_perm k v m) (fput_nodup hn)]
  by_cases h : k = k'
  · simp [aget, h]
  · simp only [aget, if_neg h]
    cases h1 : aget k' m with
    | none =>
      rw [aget_none] at h1 ⊢
      rw [fdel_keys]
      intro hm
      exact h1 (List.mem_filter.1 hm).1
    | some u =>
      rw [aget_some hn] at h1
      rw [aget_some (fdel_nodup hn), fdel_eq_filter, List.mem_filter]
      exact ⟨h1, by simp; exact fun e => h e.symm⟩
theorem aget_fdel (k k' : List UInt8) {m : List (List UInt8 × α)} (hn : (m.map (·.1)).Nodup) : aget k' (fdel k m) = if k = k' then none else aget k' m := by
  by_cases h : k = k'
  · rw [if_pos h, aget_none, fdel_keys, ← h]; simp
  · rw [if_neg h]
    cases h1 : aget k' m with
    | none =>
      rw [aget_none] at h1 ⊢
      rw [fdel_keys]
      intro hm
      exact h1 (List.mem_filter.1 hm).1
    | some u =>
      rw [aget_some hn] at h1
      rw [aget_some (fdel_nodup hn), fdel_eq_filter, List.mem_filter]
      exact ⟨h1, by simp; exact fun e => h e.symm⟩
end

end Go.Proofs.Ythfbfdkjgkkpcaa
