/-
  The statement TableKeys: whatever the changes, the two texts and the number, hallmarklaw11.TableKeys returns true, and its arguments read as they did. No conditions.
-/
import Derived.Test.YthfbfdkjgkkpcaaRows
import Derived.Test.YthfbfdkjgkkpcaaKeysLaw
import Derived.Test.YthfbfdkjgkkpcaaArgs
import Derived.WalkKit
import Derived.ProofKit
import Derived.OpenShut
import Derived.ChangeMaps5
import Derived.Carry
namespace Go.Proofs.Ythfbfdkjgkkpcaa
open Go Go.ChangeShapes Go.WideShapes Go.ChangeAt Go.RowKit Go.ChangeMaps

theorem own_knob : ownKnob Try.prog.godebug = none := by kernel_rfl
theorem laid_out : laidOutB Try.prog = true := by kernel_rfl
theorem kept_of_upd {w w' : World} (h : Upd [] w w') (may : MemPlace → Prop) : w.keptBut w' may := by
  refine ⟨h.os, h.output, fun i hi => ?_⟩
  rw [h.keep i hi (by simp)]
  exact (World.keptBut_refl w may).2.2 i hi
theorem okWide_array {P : Program} {w : World} {r : Reach} {b0 : Nat} {t e : TypeId} {n : Nat} {v : Value} (ht : P.underlying t = some (.array n e)) (h : Value.okWide P w r b0 t v) : ∃ cs, v = .agg cs := by
  unfold Value.okWide at h
  rw [ht] at h
  obtain ⟨cs, rfl, _⟩ := h
  exact ⟨cs, rfl⟩
/-- What a call that turned nothing old leaves, as the row asks. -/
theorem post_of_upd {H : Type} {enc : TypeId × Value → H} {P : Program} {f : Func} {s : ChangeSpec} {apart fresh handsOn : Bool} {W W' : World} {args : Array Value} {v : Value} {ds gs : List (DataW H)} {before pa pv : List MemPlace}
    (hW : DataW.Whole enc P f.params.toList s.vars apart W args.toList ds gs before)
    (hres : ∀ (b : Nat) (sp : Nat → Bool) (hd : Bool), DataW.TrodAll enc P W' b sp hd f.resultTypes.toList (v.resultList f.resultTypes.size) (s.fn H (ds ++ gs)).results [])
    (hargs : DataW.TrodAll enc P W' 0 (fun b => decide (b < W.heap.size)) true f.params.toList args.toList (s.fn H (ds ++ gs)).args pa)
    (hvars : ∀ sp : Nat → Bool, (∀ p ∈ before, sp p.block = true) → DataW.TrodVars enc P W' sp s.vars (s.fn H (ds ++ gs)).vars pv)
    (hU : Upd [] W W') : s.post enc P f apart fresh handsOn false W args v W' := by
  have hold : ∀ p ∈ before, (fun b => decide (b < W.heap.size)) p.block = true := fun p hp => by simpa using hW.lt p hp
  exact ⟨ds, gs, before, [], pa, pv, hW, hres _ _ _, hargs, hvars _ hold, kept_of_upd hU _, fun h => by cases h⟩

set_option maxRecDepth 100000 in
theorem tableKeys_lifted (os : Os) (started : os.Started) (H : Type) (enc : TypeId × Value → H) :
    ReturnsInHanded {} Try.checked os 3 .any (Rows.tableKeysSpec.pre6 enc Try.prog Try.f3 Rows.tableKeysRow.domain false) (Rows.tableKeysSpec.post enc Try.prog Try.f3 false true false false) := by
  refine returnsInHanded_of_change (C := Try.checked) own_knob started (by kernel_rfl) Try.func3
    (ChangeSpec.witness6 (enc := enc) (C := Try.checked) false ⟨#[], #[.slice none 0 0, .agg #[.string ⟨#[]⟩, .string ⟨#[]⟩], .int .i64 0], []⟩ 8 (by kernel_rfl) (by kernel_rfl) (by kernel_rfl) (by kernel_rfl)) ?_
  intro W base args ds gs before hval0 hW hcnd _
  have hval : ∀ (j : Nat) t v, Try.f3.params[j]? = some t → args[j]? = some v → Value.okWide Try.prog W .any base t v := hval0
  have hW' := hW
  obtain ⟨p, q, hA0, hV, rfl, hfz, hnd⟩ := hW
  have hA : DataW.TrodAll enc Try.prog W 0 (fun _ => true) true Try.f3.params.toList args.toList ds p := hA0
  rw [Try.params3] at hA hval
  obtain ⟨v0, vs0, d0, ds0, p0, q0, hargs, rfl, rfl, h0, r0⟩ := trodAll_cons hA
  obtain ⟨v1, vs1, d1, ds1, p1, q1, rfl, rfl, rfl, h1, r1⟩ := trodAll_cons r0
  obtain ⟨v2, vs2, d2, ds2, p2, q2, rfl, rfl, rfl, h2, r2⟩ := trodAll_cons r1
  obtain ⟨rfl, rfl, rfl⟩ := trodAll_nil r2
  obtain rfl : args = #[v0, v1, v2] := by cases args; simp_all
  obtain ⟨rfl, rfl⟩ := trodVars_none hV
  obtain ⟨ao, len, cap, rfl⟩ := okWide_slice Try.underlying22 (hval 0 22 v0 rfl rfl)
  obtain ⟨cs, rfl⟩ := okWide_array Try.underlying23 (hval 1 23 v1 rfl rfl)
  obtain ⟨most, rfl, rfl, rfl, hwf⟩ := open_int Try.underlying3 (hval 2 3 v2 rfl rfl) h2
  have hl : ∃ l, RChgs W (.slice ao len cap) l := by
    obtain ⟨fuel, hf⟩ := h0
    obtain ⟨v, l, he, hr⟩ := open_chgs hf
    have : v = .slice ao len cap := by simp [Value.cells] at he; exact he.symm
    exact ⟨l, this ▸ hr⟩
  have hw : ∃ a b : List UInt8, cs = #[encS a, encS b] ∧ a.length ≤ maxLen := by
    obtain ⟨fuel, hf⟩ := h1
    obtain ⟨a, b, he, hb⟩ := open_two hf
    exact ⟨a, b, by have he' : cs.toList = [encS a, encS b] := he; rw [← Array.toArray_toList (xs := cs), he'], hb⟩
  obtain ⟨l, hl⟩ := hl
  obtain ⟨a, b, rfl, ha⟩ := hw
  have hlt : ∀ x ∈ p0 ++ (p1 ++ ([] ++ [])) ++ [], x.block < W.heap.size := fun x hx => by simpa using hW'.lt x hx
  have hm : most ≤ 9223372036854775807 := (bounds_i64 hwf).2
  refine (law11_tableKeys W _ l hl a b ha most hm).mono fun e W' ⟨he, hg⟩ => ?_
  subst he
  have hbel : Below W.heap.size W W' := Upd.below hg (Nat.le_refl _) (by simp)
  have k0 := Below.trod (enc := enc) laid_out (t := 22) (by kernel_rfl) (of_decide_eq_true (by kernel_rfl)) h0 hbel (fun x hx => hlt x (by simp [hx]))
  have k1 := Below.trod (enc := enc) laid_out (t := 23) (by kernel_rfl) (of_decide_eq_true (by kernel_rfl)) h1 hbel (fun x hx => hlt x (by simp [hx]))
  exact ⟨_, rfl, post_of_upd (pa := p0 ++ (p1 ++ ([] ++ []))) (pv := []) hW' (fun _ _ _ => (trodAll_cons_mk (shut_bool Try.underlying4 _) trodAll_mk0)) (trodAll_cons_mk k0 (trodAll_cons_mk k1 (trodAll_cons_mk (shut_int Try.underlying3 hwf) trodAll_mk0))) (fun _ _ => rfl) hg⟩

theorem tableKeys_holds : Rows.TableKeysSaid :=
  OpenClaim.holds_of_wide 3 Try.f3 rfl rfl rfl rfl rfl rfl rfl ⟨rfl, rfl, rfl, rfl, rfl⟩ rfl rfl rfl rfl rfl (by kernel_rfl) Try.func3 (by kernel_rfl)
    (of_decide_eq_true (by kernel_rfl)) (by unfold Func.isWrapper; first | (rw [if_pos (by decide +kernel)]; kernel_rfl) | (rw [if_neg (by decide +kernel)]; exact ⟨rfl, rfl⟩))
    (fun os started H enc _ => tableKeys_lifted os started H enc)
end Go.Proofs.Ythfbfdkjgkkpcaa
