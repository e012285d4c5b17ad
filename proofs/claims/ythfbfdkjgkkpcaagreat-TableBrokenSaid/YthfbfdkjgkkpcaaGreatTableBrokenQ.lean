/-
  The statement TableBroken: whatever the records, hallmarklaw11.TableBroken returns true, and its argument reads as it did. No conditions.
-/
import Derived.Test.YthfbfdkjgkkpcaaGreatRows
import Derived.Test.YthfbfdkjgkkpcaaGreatPkE
namespace Go.Proofs.YthfbfdkjgkkpcaaGreat
open Go Go.ChangeShapes Go.WideShapes Go.ChangeAt Go.RowKit Go.ChangeMaps

set_option maxRecDepth 100000 in
theorem tableBroken_lifted (os : Os) (started : os.Started) (H : Type) (enc : TypeId × Value → H) :
    ReturnsInHanded {} Tryz.checked os 3 .any (Rows.tableBrokenSpec.pre6 enc Tryz.prog Tryz.f3 Rows.tableBrokenRow.domain false) (Rows.tableBrokenSpec.post enc Tryz.prog Tryz.f3 false true false false) := by
  refine returnsInHanded_of_change (C := Tryz.checked) own_knob started (by kernel_rfl) Tryz.func3
    (ChangeSpec.witness6 (enc := enc) (C := Tryz.checked) false ⟨#[], #[.slice none 0 0], []⟩ 8 (by kernel_rfl) (by kernel_rfl) (by kernel_rfl) (by kernel_rfl)) ?_
  intro W base args ds gs before hval0 hW hcnd _
  have hval : ∀ (j : Nat) t v, Tryz.f3.params[j]? = some t → args[j]? = some v → Value.okWide Tryz.prog W .any base t v := hval0
  have hW' := hW
  obtain ⟨p, q, hA0, hV, rfl, hfz, hnd⟩ := hW
  have hA : DataW.TrodAll enc Tryz.prog W 0 (fun _ => true) true Tryz.f3.params.toList args.toList ds p := hA0
  rw [Tryz.params3] at hA hval
  obtain ⟨v0, vs0, d0, ds0, p0, q0, hargs, rfl, rfl, h0, r0⟩ := trodAll_cons hA
  obtain ⟨rfl, rfl, rfl⟩ := trodAll_nil r0
  obtain rfl : args = #[v0] := by cases args; simp_all
  obtain ⟨rfl, rfl⟩ := trodVars_none hV
  obtain ⟨ao, len, cap, rfl⟩ := okWide_slice Tryz.underlying22 (hval 0 22 v0 rfl rfl)
  have hl : ∃ l, RRecs W (.slice ao len cap) l := by
    obtain ⟨fuel, hf⟩ := h0
    obtain ⟨v, l, he, hr⟩ := open_recs hf
    have : v = .slice ao len cap := by simp [Value.cells] at he; exact he.symm
    exact ⟨l, this ▸ hr⟩
  obtain ⟨l, hl⟩ := hl
  have hlt : ∀ x ∈ p0 ++ [] ++ [], x.block < W.heap.size := fun x hx => by simpa using hW'.lt x hx
  refine (law11_tableBroken W _ l hl).mono fun e W' ⟨he, hg⟩ => ?_
  subst he
  have hbel : Below W.heap.size W W' := Upd.below hg (Nat.le_refl _) (by simp)
  have k0 := Below.trod (enc := enc) laid_out (t := 22) (by kernel_rfl) (of_decide_eq_true (by kernel_rfl)) h0 hbel (fun x hx => hlt x (by simp [hx]))
  exact ⟨_, rfl, post_of_upd (pa := p0 ++ []) (pv := []) hW' (fun _ _ _ => (trodAll_cons_mk (shut_bool Tryz.underlying4 _) trodAll_mk0)) (trodAll_cons_mk k0 trodAll_mk0) (fun _ _ => rfl) hg⟩

theorem tableBroken_holds : Rows.TableBrokenSaid :=
  OpenClaim.holds_of_wide 3 Tryz.f3 rfl rfl rfl rfl rfl rfl rfl ⟨rfl, rfl, rfl, rfl, rfl⟩ rfl rfl rfl rfl rfl (by kernel_rfl) Tryz.func3 (by kernel_rfl)
    (of_decide_eq_true (by kernel_rfl)) (by unfold Func.isWrapper; first | (rw [if_pos (by decide +kernel)]; kernel_rfl) | (rw [if_neg (by decide +kernel)]; exact ⟨rfl, rfl⟩))
    (fun os started H enc _ => tableBroken_lifted os started H enc)
end Go.Proofs.YthfbfdkjgkkpcaaGreat
