/-
  The document's pairs, plainly: in order by key; what Find, Do and Keys come to, against the table's map.
-/
import Derived.Test.YthfbfdkjgkkpcaaKeys
namespace Go.Proofs.Ythfbfdkjgkkpcaa

/-- In order by key, each key once. -/
def Srt (l : List (List UInt8 × List UInt8)) : Prop := l.Pairwise (fun p q => p.1 < q.1)
/-- How many pairs stand before a key. -/
def pfind (k : List UInt8) : List (List UInt8 × List UInt8) → Nat
  | [] => 0
  | p :: r => if p.1 < k then pfind k r + 1 else 0
def pdo1 (l : List (List UInt8 × List UInt8)) (c : TChg) : List (List UInt8 × List UInt8) :=
  l.take (pfind c.key l) ++ (if c.gone then [] else [(c.key, c.val)]) ++ fdel c.key (l.drop (pfind c.key l))
theorem pfind_le (k : List UInt8) : ∀ l : List (List UInt8 × List UInt8), pfind k l ≤ l.length
  | [] => Nat.le_refl _
  | p :: r => by
    unfold pfind
    split
    · simpa using pfind_le k r
    · simp
theorem pfind_lt (k : List UInt8) : ∀ (l : List (List UInt8 × List UInt8)) (i : Nat) (p : List UInt8 × List UInt8), i < pfind k l → l[i]? = some p → p.1 < k
  | [], i, p, h, _ => by simp [pfind] at h
  | q :: r, i, p, h, hi => by
    unfold pfind at h
    split at h
    · rename_i hq
      cases i with
      | zero => simp at hi; subst hi; exact hq
      | succ i => exact pfind_lt k r i p (by omega) (by simpa using hi)
    · omega
theorem pfind_ge (k : List UInt8) : ∀ (l : List (List UInt8 × List UInt8)) (p : List UInt8 × List UInt8), l[pfind k l]? = some p → ¬ p.1 < k
  | [], p, h => by simp [pfind] at h
  | q :: r, p, h => by
    by_cases hq : q.1 < k
    · simp only [pfind, if_pos hq, List.getElem?_cons_succ] at h
      exact pfind_ge k r p h
    · simp only [pfind, if_neg hq, List.getElem?_cons_zero, Option.some.injEq] at h
      subst h; exact hq
theorem pfind_next {k : List UInt8} {l : List (List UInt8 × List UInt8)} {i : Nat} {p : List UInt8 × List UInt8} (h : i ≤ pfind k l) (hp : l[i]? = some p) (hlt : p.1 < k) : i + 1 ≤ pfind k l := by
  rcases Nat.lt_or_ge i (pfind k l) with h1 | h1
  · exact h1
  · obtain rfl : i = pfind k l := by omega
    exact absurd hlt (pfind_ge k l p hp)
theorem pfind_stop {k : List UInt8} {l : List (List UInt8 × List UInt8)} {i : Nat} {p : List UInt8 × List UInt8} (h : i ≤ pfind k l) (hp : l[i]? = some p) (hn : ¬ p.1 < k) : i = pfind k l := by
  rcases Nat.lt_or_ge i (pfind k l) with h1 | h1
  · exact absurd (pfind_lt k l i p h1 hp) hn
  · omega
theorem fins_head (q : List UInt8 × List UInt8) (l : List (List UInt8 × List UInt8)) (h : ∀ p ∈ l, q.1 < p.1) : fins q l = q :: l := by
  cases l with
  | nil => rfl
  | cons p r => unfold fins; rw [if_pos (h p (by simp))]
theorem fdel_mem {k : List UInt8} {l : List (List UInt8 × List UInt8)} {p : List UInt8 × List UInt8} (h : p ∈ fdel k l) : p ∈ l ∧ p.1 ≠ k := by
  rw [fdel_eq_filter, List.mem_filter] at h
  exact ⟨h.1, by simpa using h.2⟩
theorem Srt.fdel {l : List (List UInt8 × List UInt8)} (h : Srt l) (k : List UInt8) : Srt (fdel k l) := by
  unfold Srt; rw [fdel_eq_filter]; exact List.Pairwise.filter _ h
theorem Srt.fins {l : List (List UInt8 × List UInt8)} (h : Srt l) (q : List UInt8 × List UInt8) (hq : ∀ p ∈ l, p.1 ≠ q.1) : Srt (fins q l) := by
  induction l with
  | nil => simp [Go.Proofs.Ythfbfdkjgkkpcaa.fins, Srt]
  | cons p r ih =>
    unfold Srt at h
    rw [List.pairwise_cons] at h
    unfold Go.Proofs.Ythfbfdkjgkkpcaa.fins
    split
    · rename_i hlt
      refine List.pairwise_cons.2 ⟨?_, List.pairwise_cons.2 h⟩
      intro x hx
      rcases List.mem_cons.1 hx with rfl | hx
      · exact hlt
      · exact List.lt_trans hlt (h.1 x hx)
    · rename_i hlt
      refine List.pairwise_cons.2 ⟨?_, ih h.2 (fun x hx => hq x (by simp [hx]))⟩
      intro x hx
      rcases List.mem_cons.1 ((fins_perm q r).mem_iff.1 hx) with rfl | hx
      · rcases Decidable.em (p.1 < x.1) with h1 | h1
        · exact h1
        · exact absurd (List.le_antisymm (List.not_lt.1 hlt) (List.not_lt.1 h1)) (hq p (by simp))
      · exact h.1 x hx
theorem Srt.tdo1 {l : List (List UInt8 × List UInt8)} (h : Srt l) (c : TChg) : Srt (tdo1 l c) := by
  unfold Go.Proofs.Ythfbfdkjgkkpcaa.tdo1
  split
  · exact h.fdel _
  · exact (h.fdel _).fins _ (fun p hp => (fdel_mem hp).2)
theorem Srt.tdo {l : List (List UInt8 × List UInt8)} (h : Srt l) (cs : List TChg) : Srt (tdo l cs) := by
  unfold Go.Proofs.Ythfbfdkjgkkpcaa.tdo
  induction cs generalizing l with
  | nil => exact h
  | cons c r ih => exact ih (h.tdo1 c)
theorem Srt.nil : Srt [] := List.Pairwise.nil
theorem Srt.nodup {l : List (List UInt8 × List UInt8)} (h : Srt l) : (l.map (·.1)).Nodup := by
  rw [List.nodup_iff_pairwise_ne, List.pairwise_map]
  unfold Srt at h
  refine List.Pairwise.imp ?_ h
  intro p q hlt he
  rw [he] at hlt
  exact List.lt_irrefl _ hlt
theorem pdo1_eq {l : List (List UInt8 × List UInt8)} (h : Srt l) (c : TChg) : pdo1 l c = tdo1 l c := by
  induction l with
  | nil => unfold pdo1 tdo1; cases c.gone <;> rfl
  | cons p r ih =>
    unfold Srt at h
    rw [List.pairwise_cons] at h
    have ih := ih h.2
    unfold pdo1 tdo1 at ih ⊢
    by_cases hlt : p.1 < c.key
    · have hne : p.1 ≠ c.key := fun e => List.lt_irrefl _ (e ▸ hlt)
      simp only [pfind, if_pos hlt, List.take_succ_cons, List.drop_succ_cons, List.cons_append, ih]
      split
      · simp only [fdel, if_neg hne]
      · have hn : ¬ c.key < p.1 := fun h2 => List.lt_irrefl _ (List.lt_trans hlt h2)
        simp only [fput, fdel, if_neg hne]
        rw [fins, if_neg hn]
    · simp only [pfind, if_neg hlt, List.take_zero, List.nil_append, List.drop_zero]
      cases c.gone
      · simp only [Bool.false_eq_true, if_false, List.singleton_append]
        unfold fput
        rw [fins_head]
        intro q hq
        obtain ⟨hq1, hq2⟩ := fdel_mem hq
        have hle : c.key ≤ q.1 := by
          rcases List.mem_cons.1 hq1 with rfl | hm
          · exact List.not_lt.1 hlt
          · exact List.not_lt.1 (fun h2 => hlt (List.lt_trans (h.1 q hm) h2))
        rcases Decidable.em (c.key < q.1) with h1 | h1
        · exact h1
        · exact absurd (List.le_antisymm (List.not_lt.1 h1) hle) hq2
      · simp
/-- A key and its value are where Find says. -/
theorem pfind_aget {l : List (List UInt8 × List UInt8)} (h : Srt l) (k : List UInt8) : aget k l = (match l[pfind k l]? with | some p => if p.1 = k then some p.2 else none | none => none) := by
  induction l with
  | nil => rfl
  | cons p r ih =>
    unfold Srt at h
    rw [List.pairwise_cons] at h
    have ih := ih h.2
    by_cases hlt : p.1 < k
    · have hne : p.1 ≠ k := fun e => List.lt_irrefl _ (e ▸ hlt)
      simp only [pfind, if_pos hlt, List.getElem?_cons_succ, aget, if_neg hne, ih]
    · simp only [pfind, if_neg hlt, List.getElem?_cons_zero, aget]
      by_cases he : p.1 = k
      · simp [he]
      · simp only [if_neg he]
        rw [aget_none]
        intro hm
        obtain ⟨q, hq, rfl⟩ := List.mem_map.1 hm
        exact hlt (h.1 q hq)
theorem sortK_srt {l : List (List UInt8 × List UInt8)} (h : Srt l) : sortK l = l.map (·.1) := by
  unfold sortK
  refine List.mergeSort_of_pairwise ?_
  rw [List.pairwise_map]
  unfold Srt at h
  refine List.Pairwise.imp ?_ h
  intro p q hlt
  unfold leK
  rw [decide_eq_true_iff]
  exact List.not_lt.1 (fun h2 => List.lt_irrefl _ (List.lt_trans hlt h2))
/-- All keys. -/
theorem keysGo_all : ∀ (ks o : List (List UInt8)) (n : Nat), (∀ k ∈ ks, k ≠ []) → o.length + ks.length ≤ n → keysGo [] [] n o ks = o ++ ks
  | [], o, n, _, _ => by simp [keysGo]
  | k :: r, o, n, h, hn => by
    simp only [List.length_cons] at hn
    have hk : k ≠ [] := h k (by simp)
    have hok : okKey [] [] k = true := by
      unfold okKey
      cases k with
      | nil => exact absurd rfl hk
      | cons a b => simp [List.isPrefixOf]
    rw [keysGo, if_neg (by omega), hok, if_pos rfl, keysGo_all r (o ++ [k]) n (fun x hx => h x (by simp [hx])) (by simp; omega)]
    simp
/-- Keys that are not empty stay so. -/
theorem tdo_keys {l : List (List UInt8 × List UInt8)} {cs : List TChg} (Q : List UInt8 × List UInt8 → Prop) (h : ∀ p ∈ l, Q p) (hc : ∀ c ∈ cs, Q (c.key, c.val)) : ∀ p ∈ tdo l cs, Q p := by
  unfold tdo
  induction cs generalizing l with
  | nil => exact h
  | cons c r ih =>
    refine ih ?_ (fun c' hc' => hc c' (by simp [hc']))
    intro p hp
    unfold tdo1 at hp
    split at hp
    · exact h p (fdel_mem hp).1
    · rcases List.mem_cons.1 ((fput_perm _ _ _).mem_iff.1 hp) with rfl | hm
      · exact hc c (by simp)
      · exact h p (fdel_mem hm).1
theorem tdo_length (cs : List TChg) : ∀ l : List (List UInt8 × List UInt8), (tdo l cs).length ≤ l.length + cs.length := by
  unfold tdo
  induction cs with
  | nil => intro l; simp
  | cons c r ih =>
    intro l
    have := ih (tdo1 l c)
    have h1 : (tdo1 l c).length ≤ l.length + 1 := by
      have hf : (fdel c.key l).length ≤ l.length := by rw [fdel_eq_filter]; exact List.length_filter_le _ _
      unfold tdo1
      split
      · omega
      · rw [(fput_perm _ _ _).length_eq]; simpa using hf
    simp only [List.foldl_cons, List.length_cons]
    omega
/-- What a record refuses: no change of a record that is made has an empty key. -/
theorem encGo_keys : ∀ (l : List TChg) (pre : List UInt8), (encGo pre l).2 = 0 → ∀ c ∈ l, c.key ≠ []
  | [], _, _, c, hc => by cases hc
  | a :: r, pre, h, c, hc => by
    unfold encGo at h
    split at h
    · simp at h
    · rename_i hb
      split at h
      · simp at h
      · rcases List.mem_cons.1 hc with rfl | hc
        · intro he
          apply hb
          unfold badChg
          simp [he]
        · exact encGo_keys r _ h c hc
theorem encB_keys {l : List TChg} (h : (encB l).2 = 0) : ∀ c ∈ l, c.key ≠ [] := by
  unfold encB at h
  split at h
  · simp at h
  · exact encGo_keys l _ h
/-- A record of small changes is short. -/
theorem encGo_small : ∀ (l : List TChg) (pre : List UInt8), (∀ c ∈ l, c.key.length ≤ 400 ∧ c.val.length ≤ 500) → (encGo pre l).1.length ≤ pre.length + 930 * l.length
  | [], pre, _ => by simp [encGo]
  | a :: r, pre, h => by
    have ha := h a (by simp)
    have hs : (encStep a).length ≤ 930 := by
      have h1 := countB_len10 (n := a.key.length) ⟨by omega⟩
      have h2 := countB_len10 (n := a.val.length) ⟨by omega⟩
      unfold encStep textB
      split <;> simp <;> omega
    unfold encGo
    split
    · simp
    split
    · simp
    · have := encGo_small r (pre ++ encStep a) (fun c hc => h c (by simp [hc]))
      simp only [List.length_append, List.length_cons] at this ⊢
      omega
theorem encB_small {l : List TChg} (h0 : l.length ≤ 40) (h : ∀ c ∈ l, c.key.length ≤ 400 ∧ c.val.length ≤ 500) : (encB l).1.length ≤ 37210 := by
  have h1 := countB_len10 (n := l.length) ⟨by omega⟩
  unfold encB
  split
  · simp
  · have := encGo_small l (countB l.length) h
    omega
end Go.Proofs.Ythfbfdkjgkkpcaa
