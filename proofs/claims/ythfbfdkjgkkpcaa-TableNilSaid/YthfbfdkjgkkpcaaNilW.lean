/-
  The walk of the statement TableNil.
-/
import Derived.Test.YthfbfdkjgkkpcaaAwake
namespace Go.Proofs.Ythfbfdkjgkkpcaa
open Go Go.RowKit

theorem table_apply_nil (w : World) (lv : Value) : Calls Try.prog 10 #[.pointer none, lv] w fun e w' => e = .returned (.int .i64 2) ∧ w = w' := by
  have hup := table_up_nil w
  go_enter Try.func10, Try.ntmps10
  go_wp2_with (go_at_call 30; refine hup.mono ?_; rintro e w1 ⟨rfl, rfl⟩)
  go_ret
  exact ⟨rfl, rfl⟩
theorem table_fold_nil (w : World) : Calls Try.prog 20 #[.pointer none] w fun e w' => e = .returned (.int .i64 2) ∧ w = w' := by
  have hup := table_up_nil w
  go_enter Try.func20, Try.ntmps20
  go_wp2_with (go_at_call 30; refine hup.mono ?_; rintro e w1 ⟨rfl, rfl⟩)
  go_ret
  exact ⟨rfl, rfl⟩
theorem table_size_nil (w : World) : Calls Try.prog 22 #[.pointer none] w fun e w' => e = .returned (.int .i64 0) ∧ w = w' := by
  go_enter Try.func22, Try.ntmps22
  go_wp2
  go_ret
  exact ⟨rfl, rfl⟩

/-! What the three records come to -/
def chK : TChg := ⟨[107], false, []⟩
theorem encGo_rep : ∀ (n : Nat) (pre : List UInt8), pre.length + 5 * n ≤ 1048568 → (encGo pre (List.replicate n chK)).2 = 0
  | 0, pre, _ => rfl
  | n + 1, pre, h => by
    have h0 : countB 0 = [0] := countB_lt (by omega)
    have h1 : countB 1 = [1] := countB_lt (by omega)
    have hl : (pre ++ encStep chK).length = pre.length + 4 := by simp [encStep, chK, textB, h0, h1]
    rw [List.replicate_succ, encGo, if_neg (by decide), if_neg (by omega)]
    exact encGo_rep n _ (by omega)
theorem encB_rep (n : Nat) (h : n ≤ 256) : (encB (List.replicate n chK)).2 = 0 := by
  unfold encB
  have := countB_len10 (n := n) ⟨by omega⟩
  rw [List.length_replicate, if_neg (by omega)]
  exact encGo_rep n _ (by omega)
theorem encB_many (n : Nat) (h : 256 < n) : (encB (List.replicate n chK)).2 = 8 := by
  unfold encB
  rw [List.length_replicate, if_pos h]
def chBig (v : List UInt8) : TChg := ⟨[107], false, v⟩
theorem encB_big (v : List UInt8) (hv : v.length = 262144) : (encB [chBig v, chBig v, chBig v, chBig v]).2 = 8 := by
  have h1 : countB 1 = [1] := countB_lt (by omega)
  have h4 : countB 4 = [4] := countB_lt (by omega)
  have hc : (countB 262144).length = 3 := by
    rw [countB_ge (by omega), countB_ge (by omega), countB_lt (by omega)]; rfl
  have hl : (encStep (chBig v)).length = 262150 := by
    have : encStep (chBig v) = 1 :: (textB [107] ++ textB v) := rfl
    rw [this]
    simp only [textB, hv, h1, hc, List.length_cons, List.length_append, List.length_nil]
  have hb : badChg (chBig v) = false := by
    show decide (([107] : List UInt8) = [] ∨ 320 < ([107] : List UInt8).length ∨ 262144 < v.length) = false
    rw [hv]
    simp
  have hg : ∀ (pre : List UInt8) (r : List TChg), pre.length + 262150 ≤ 1048568 → encGo pre (chBig v :: r) = encGo (pre ++ encStep (chBig v)) r := by
    intro pre r h
    rw [encGo, hb, if_neg (by simp), if_neg (by rw [List.length_append, hl]; omega)]
  unfold encB
  rw [if_neg (by simp)]
  show (encGo (countB 4) _).2 = 8
  rw [h4, hg _ _ (by simp), hg _ _ (by simp [hl]), hg _ _ (by simp [hl])]
  rw [encGo, hb, if_neg (by simp), if_pos (by simp [hl])]
end Go.Proofs.Ythfbfdkjgkkpcaa
