/-
  The walk of the table's Keys.
-/
import Derived.Test.YthfbfdkjgkkpcaaKeysW
import Derived.Test.YthfbfdkjgkkpcaaTab
import Derived.Sort.Walk0
namespace Go.Proofs.Ythfbfdkjgkkpcaa
open Go Go.RowKit

/-- Does the key begin with head, behind after? -/
def okKey (head after k : List UInt8) : Bool := head.isPrefixOf k && decide (after < k)
def keysGo (head after : List UInt8) (most : Int) (out : List (List UInt8)) : List (List UInt8) → List (List UInt8)
  | [] => out
  | k :: r => if most ≤ out.length then out else if okKey head after k then keysGo head after most (out ++ [k]) r else keysGo head after most out r
theorem ext_take (k : List UInt8) (n : Nat) : ((⟨k.toArray⟩ : ByteArray).extract 0 n).toList = k.take n := by
  rw [ByteArray.toList_eq]
  simp [ByteArray.data_extract]
theorem gt_lex {k after : List UInt8} : ((!Op.bytesLess k after) = true ∧ (!k == after) = true) ↔ after < k := by
  rw [bytesLess_eq]
  simp only [Bool.not_eq_true', decide_eq_false_iff_not, beq_eq_false_iff_ne, ne_eq]
  constructor
  · rintro ⟨h1, h2⟩
    rcases Decidable.em (after < k) with h | h
    · exact h
    · exact absurd (List.le_antisymm (List.not_lt.1 h) (List.not_lt.1 h1)) h2
  · intro h
    exact ⟨fun h1 => List.lt_irrefl _ (List.lt_trans h h1), fun h1 => by subst h1; exact List.lt_irrefl _ h⟩
theorem prefix_take {head k : List UInt8} : head.isPrefixOf k = true ↔ head.length ≤ k.length ∧ k.take head.length = head := by
  rw [List.isPrefixOf_iff_prefix]
  constructor
  · rintro ⟨t, rfl⟩
    simp
  · rintro ⟨_, h⟩
    exact ⟨k.drop head.length, by have := List.take_append_drop head.length k; rw [h] at this; exact this⟩
theorem ok_yes {head after k : List UInt8} (h1 : head.length ≤ k.length) (h2 : ((⟨k.toArray⟩ : ByteArray).extract 0 head.length).toList = head) (h3 : (!Op.bytesLess k after) = true ∧ (!k == after) = true) : okKey head after k = true := by
  unfold okKey
  rw [Bool.and_eq_true, prefix_take, decide_eq_true_iff, ← gt_lex]
  exact ⟨⟨h1, by rw [← ext_take]; exact h2⟩, h3⟩
theorem ok_no {head after k : List UInt8} (h : ¬ (head.length ≤ k.length ∧ ((⟨k.toArray⟩ : ByteArray).extract 0 head.length).toList = head ∧ ((!Op.bytesLess k after) = true ∧ (!k == after) = true))) : okKey head after k = false := by
  cases hc : okKey head after k with
  | false => rfl
  | true =>
    unfold okKey at hc
    rw [Bool.and_eq_true, prefix_take, decide_eq_true_iff, ← gt_lex] at hc
    exact absurd ⟨hc.1.1, by rw [ext_take]; exact hc.1.2, hc.2⟩ h
theorem ok_no1 {head after k : List UInt8} (h : ¬ head.length ≤ k.length) : okKey head after k = false := ok_no (fun h' => h h'.1)
theorem ok_no2 {head after k : List UInt8} (h : ¬ ((⟨k.toArray⟩ : ByteArray).extract 0 head.length).toList = head) : okKey head after k = false := ok_no (fun h' => h h'.2.1)
theorem ok_no3 {head after k : List UInt8} (h : (!Op.bytesLess k after) = false ∨ (!k == after) = false) : okKey head after k = false := ok_no (fun h' => by
  rcases h with h | h
  · rw [h] at h'; exact absurd h'.2.2.1 (by simp)
  · rw [h] at h'; exact absurd h'.2.2.2 (by simp))
theorem elStr : Elem Try.prog 38 9 1 16 := ⟨by kernel_rfl, by omega, by
  obtain ⟨i, h1, h2, h3, h4⟩ := info_parts (P := Try.prog) (e := 9) (z := .string ⟨#[]⟩) (size := 1) (bytes := 16) (by kernel_rfl)
  exact ⟨i, _, h1, h2, h3, h4, rfl⟩⟩
def KeysPost (w : World) (r : List (List UInt8)) (e : Ending) (w' : World) : Prop := ∃ v, e = .returned v ∧ w'.ownsRow w.heap.size 9 1 v r.length (r.map encS) ∧ Upd [] w w'
def KeysRel (w : World) (ks : List (List UInt8)) (head after : List UInt8) (most : Int) (x out : Value) (wr : World) : Prop :=
  ∃ (i : Nat) (o : List (List UInt8)), x = .int .i64 i ∧ i ≤ ks.length ∧ o.length ≤ i ∧ Upd [] w wr ∧ wr.ownsRow w.heap.size 9 1 out o.length (o.map encS) ∧ keysGo head after most [] ks = keysGo head after most o (ks.drop i)

set_option maxRecDepth 100000 in
set_option maxHeartbeats 1000000 in
theorem table_keys (w : World) (d tb : Nat) (S : List Nat) (T : TSt) (h : TAt w d tb S T) (head after : List UInt8) (most : Int) (hk : ∀ p ∈ T.m, p.1.length ≤ maxLen) (hn : T.m.length ≤ 1000000000) (hh : head.length ≤ maxLen) (hm : most ≤ 9223372036854775807) :
    Calls Try.prog 13 #[.pointer (some ⟨tb, 0, none⟩), encS head, encS after, .int .i64 most] w (KeysPost w (keysGo head after most [] (sortK T.m))) := by
  obtain ⟨jb, mb, S0, hS, hmb, hJ, hM, ht⟩ := h.ex
  have c1 : w.cell? ⟨tb, 1, none⟩ = some (.map (some mb)) := by rw [cell_lit w tb 1 _ _ _ ht]; rfl
  have hK := maps_keys w mb
  have hSo := sorted_keys w mb T.m hM hk hn
  have hlen : (sortK T.m).length = T.m.length := by unfold sortK; simp
  generalize sortK T.m = ks at *
  rw [← hlen] at hSo hn
  have HN := Lib.hid hn; have HH := Lib.hid hh; have HMO := Lib.hid hm
  clear hK hJ hM ht h hk hn hh hm hlen hS
  have hK := maps_keys w mb
  go_enter Try.func13, Try.ntmps13
  go_wp2_with (first
    | (go_at_call 35; refine hK.mono ?_; rintro e w1 ⟨rfl, rfl⟩)
    | (go_at_call 34; refine hSo.mono ?_; rintro e w1 ⟨v1, rfl, hv1, hU1⟩; obtain ⟨ao1, cap1, hs1, _⟩ := (Rd.of_own hv1).shape; subst hs1; (have hU2 : Upd [] w w1 := (Upd.alloc [] _ _).trans0 hU1)))
  go_loopw [21, 9] (fun x v wr => KeysRel w1 ks head after most x v wr) (fun x _ _ => ks.length - (intOf x).toNat)
  case atStart => exact ⟨0, [], rfl, Nat.zero_le _, Nat.zero_le _, Upd.refl _ _, World.ownsRow_nil _ _ _ _, rfl⟩
  case round =>
    obtain ⟨i, o, rfl, hi, ho, hU, hown, hkg⟩ := hrel
    have hll := HN.out
    by_cases hlt : i < ks.length
    · have htt : decide ((i : Int) < (ks.length : Int)) = true := by simp; omega
      obtain ⟨k, hki⟩ : ∃ k, ks[i]? = some k := ⟨_, List.getElem?_eq_getElem hlt⟩
      have hR : Rd wr 9 1 (.slice ao1 ks.length cap1) ks.length (ks.map encS) := (Rd.of_own hv1).upd0 hU
      have hku : (ks.map encS)[(i : Int).toNat]? = some (encS k) := by simp [hki]
      obtain ⟨ao9, cap9, hs9, _⟩ := (Rd.of_own hown).shape
      subst hs9
      have hstep : keysGo head after most o (ks.drop i) = if most ≤ o.length then o else if okKey head after k then keysGo head after most (o ++ [k]) (ks.drop (i + 1)) else keysGo head after most o (ks.drop (i + 1)) := by
        rw [List.drop_eq_getElem_cons hlt, (List.getElem?_eq_some_iff.1 hki).2]
        rfl
      rw [hstep] at hkg
      have HKG := Lib.hid hkg; have HO := Lib.hid hown
      clear hkg hown hstep hki
      by_cases hmo : most ≤ o.length
      · have hmt : decide (most ≤ (o.length : Int)) = true := by simpa using hmo
        have HF := Lib.hid (show KeysPost w (keysGo head after most [] ks) (.returned (.slice ao9 o.length cap9)) wr from by
          rw [HKG.out, if_pos hmo]
          exact ⟨_, rfl, Own.mono HO.out hU2.size, hU2.trans0 hU⟩)
        clear hmo
        go_wp2_with ((with_reducible show wpList _ _ _ (⟨_, .indexAddr _ _ _, _, _, _, _⟩ :: _) _ _); refine wpl_indexAddr1 elStr rfl rfl hR rfl rfl (by omega) (by omega) _ hku ?_; intro ad hcell)
        go_ret
        exact HF.out
      · have hmt : decide (most ≤ (o.length : Int)) = false := by simpa using hmo
        have HMO' := Lib.hid hmo
        clear hmo
        have HNO := Lib.hid (fun (hok : okKey head after k = false) => show KeysRel w1 ks head after most (.int .i64 ((i : Int) + 1)) (.slice ao9 o.length cap9) wr from ⟨i + 1, o, by simp, hlt, by omega, hU, HO.out, by rw [HKG.out, if_neg HMO'.out, hok]; rfl⟩)
        have HYES := Lib.hid (fun (hok : okKey head after k = true) (v' : Value) (w' : World) (ho' : w'.ownsRow w1.heap.size 9 1 v' (o.length + 1) (o.map encS ++ [encS k])) (hU' : Upd [] w1 w') => show KeysRel w1 ks head after most (.int .i64 ((i : Int) + 1)) v' w' from ⟨i + 1, o ++ [k], by simp, hlt, by simp; omega, hU', by simpa using ho', by rw [HKG.out, if_neg HMO'.out, hok]; rfl⟩)
        have hol : o.length + 1 ≤ 1000000001 := by omega
        have HOL := Lib.hid hol
        clear hol
        go_wp2_with (first
          | ((with_reducible show wpList _ _ _ (⟨_, .indexAddr _ _ _, _, _, _, _⟩ :: _) _ _); refine wpl_indexAddr1 elStr rfl rfl hR rfl rfl (by omega) (by omega) _ hku ?_; intro ad hcell)
          | ((with_reducible show wpList _ _ _ (⟨_, .buildSlice _ _ _, _, _, _, _⟩ :: _) _ _); (have hok : okKey head after k = true := ok_yes (by assumption) (by assumption) (by assumption)); refine wpl_lit elStr rfl rfl rfl (cs := [encS k]) rfl rfl (by omega) ?_; intro v5 w5 hv5 hU5 _)
          | ((with_reducible show wpList _ _ _ (⟨_, .call ⟨.builtin .append, _, _⟩, _, _, _, _⟩ :: _) _ _); refine wpl_append elStr rfl rfl (Own.upd0 HO.out hU5) rfl (Rd.of_own hv5) rfl (by intro u hu; simp at hu; subst hu; rfl) (by have := HOL.out; unfold maxLen; omega) (by have := HOL.out; omega) (hU.trans0 hU5).size ?_; intro v6 w6 hv6 hg6 _))
        all_goals try (first | exact ⟨HNO.out (ok_no1 (by assumption)), by simp [intOf]; omega⟩ | exact ⟨HNO.out (ok_no2 (by assumption)), by simp [intOf]; omega⟩ | exact ⟨HNO.out (ok_no3 (by assumption)), by simp [intOf]; omega⟩)
        exact ⟨HYES.out hok v6 w6 hv6 ((hU.trans0 hU5).own (Own.upd0 HO.out hU5) hg6), by simp [intOf]; omega⟩
    · have htt : decide ((i : Int) < (ks.length : Int)) = false := by simp; omega
      have hie : i = ks.length := by omega
      have HF := Lib.hid (show KeysPost w (keysGo head after most [] ks) (.returned u9) wr from by
        rw [hkg, hie, List.drop_length]
        exact ⟨_, rfl, Own.mono hown hU2.size, hU2.trans0 hU⟩)
      clear hkg hown
      go_wp2_with fail
      go_ret
      exact HF.out
theorem table_keys_nil (w : World) (head after : List UInt8) (most : Int) : Calls Try.prog 13 #[.pointer none, encS head, encS after, .int .i64 most] w fun e w' => e = .returned (.slice none 0 0) ∧ w = w' := by
  go_enter Try.func13, Try.ntmps13
  go_wp2
  go_ret
  exact ⟨rfl, rfl⟩
end Go.Proofs.Ythfbfdkjgkkpcaa
