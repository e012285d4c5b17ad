/-
  A region that draws its order and whose operations keep a condition on the world: each that reads is taken in the order of the text; one whose guard does not hold is passed by. (After the library's own law on a held condition.)
-/
import Derived.Test.YthfbfdkjgkkpcaaRegion
namespace Go.Proofs.Ythfbfdkjgkkpcaa
open Go Go.RowKit

section
variable {P : Program} {ops : Array Oper} {Q : Exit → Act → World → Prop} {md : Region.Mode} {S : World → Prop}
abbrev opg (dst : Option Tmp) (op : Op) (ty : TypeId) (pos : String) (after : Array Edge) (g : Nat × Bool) : Oper := ⟨dst, op, ty, pos, after, some g⟩
theorem opg_of {i : Nat} {dst : Option Tmp} {op : Op} {g : Nat × Bool} (hi : (ops[i]?).map (fun o => (o.dst, o.op, o.guard)) = some (dst, op, some g)) : ∃ ty pos after, ops[i]? = some (opg dst op ty pos after g) := by
  obtain ⟨o, ho, he⟩ := Option.map_eq_some_iff.1 hi
  simp only [Prod.mk.injEq] at he
  obtain ⟨rfl, rfl, h3⟩ := he
  cases o
  simp only at h3
  subst h3
  exact ⟨_, _, _, ho⟩
theorem wpAnyH_takeO {i : Nat} {dst : Option Tmp} {op : Op} {v : Value} {fuel : Nat} {listed : Array Bool} {a : Act} {w : World} (hi : (ops[i]?).map (fun o => (o.dst, o.op, o.guard)) = some (dst, op, none))
    (hs : Region.noSelect ops = true) (hf : Region.free md ops listed i = true) (hr : (Region.ready md ops listed).contains i = true)
    (hQ : ∀ c a w, Q (.panic c) (a.put dst v) w → Q (.panic c) a w) (hy : ∀ ty pos after W, S W → (execOp a.eval (opr dst op ty pos after)).run P W = .ok (.value v) W) (hS : S w)
    (h : wpAnyH P md ops Q S fuel (listed.setIfInBounds i true) (a.put dst v) w) : wpAnyH P md ops Q S (fuel + 1) listed a w := by
  obtain ⟨ty, pos, after, ho⟩ := opr_of hi
  exact wpAnyH_take ho hs hf hr hQ (.inl ⟨rfl, fun W hW => hy ty pos after W hW⟩) hS h
theorem wpAnyH_takeG {i j : Nat} {b : Bool} {dst : Option Tmp} {op : Op} {v : Value} {fuel : Nat} {listed : Array Bool} {a : Act} {w : World} (hi : (ops[i]?).map (fun o => (o.dst, o.op, o.guard)) = some (dst, op, some (j, b)))
    (hs : Region.noSelect ops = true) (hf : Region.free md ops listed i = true) (hr : (Region.ready md ops listed).contains i = true) (hg : yielded ops a.tmps j = some b)
    (hQ : ∀ c a w, Q (.panic c) (a.put dst v) w → Q (.panic c) a w) (hy : ∀ ty pos after W, S W → (execOp a.eval (opg dst op ty pos after (j, b))).run P W = .ok (.value v) W) (hS : S w)
    (h : wpAnyH P md ops Q S fuel (listed.setIfInBounds i true) (a.put dst v) w) : wpAnyH P md ops Q S (fuel + 1) listed a w := by
  obtain ⟨ty, pos, after, ho⟩ := opg_of hi
  exact wpAnyH_take ho hs hf hr hQ (.inl ⟨by simp [Region.wanted, hg], fun W hW => hy ty pos after W hW⟩) hS h
theorem wpAnyH_takeU {i j : Nat} {b b' : Bool} {dst : Option Tmp} {op : Op} {fuel : Nat} {listed : Array Bool} {a : Act} {w : World} (hi : (ops[i]?).map (fun o => (o.dst, o.op, o.guard)) = some (dst, op, some (j, b)))
    (hs : Region.noSelect ops = true) (hf : Region.free md ops listed i = true) (hr : (Region.ready md ops listed).contains i = true) (hg : yielded ops a.tmps j = some b') (hb : (b' == b) = false)
    (hQ : ∀ c a w, Q (.panic c) (a.put dst undef) w → Q (.panic c) a w) (hS : S w)
    (h : wpAnyH P md ops Q S fuel (listed.setIfInBounds i true) (a.put dst undef) w) : wpAnyH P md ops Q S (fuel + 1) listed a w := by
  obtain ⟨ty, pos, after, ho⟩ := opg_of hi
  refine wpAnyH_take ho hs hf hr hQ (.inr ⟨?_, rfl⟩) hS h
  cases b <;> cases b' <;> simp_all [Region.wanted]
/-- The one operation that may come up now is a call, by its contract. -/
theorem wpAnyH_call {i : Nat} {dst : Option Tmp} {op : Op} {f : Nat} {vs : Array Value} {fuel : Nat} {listed : Array Bool} {a : Act} {w : World} (hr : Region.ready md ops listed = [i]) (hi : (ops[i]?).map (fun o => (o.dst, o.op, o.guard)) = some (dst, op, none))
    (hrun : ∀ ty pos after, (execOp a.eval (opr dst op ty pos after)).run P w = .ok (.enter f vs) w)
    (hc : Calls P f vs w fun e w' => ∃ v, e = .returned v ∧ S w' ∧ wpAnyH P md ops Q S fuel (listed.setIfInBounds i true) (a.put dst v) w') : wpAnyH P md ops Q S (fuel + 1) listed a w := by
  obtain ⟨ty, pos, after, ho⟩ := opr_of hi
  refine wpAnyH_all hr (by simp) (fun j hj => ?_)
  obtain rfl : j = i := by simpa using hj
  refine wpOp_step ho fun K hK => ?_
  rw [if_pos (show Region.wanted (opr dst op ty pos after) _ = true from rfl)]
  unfold Oper.wp
  rw [hrun ty pos after]
  refine hc.mono ?_
  rintro e w' ⟨v, rfl, h1, h2⟩
  exact hK _ _ ⟨h1, h2⟩
theorem wpAnyH_callG {i j : Nat} {b : Bool} {dst : Option Tmp} {op : Op} {f : Nat} {vs : Array Value} {fuel : Nat} {listed : Array Bool} {a : Act} {w : World} (hr : Region.ready md ops listed = [i]) (hi : (ops[i]?).map (fun o => (o.dst, o.op, o.guard)) = some (dst, op, some (j, b)))
    (hg : yielded ops a.tmps j = some b) (hrun : ∀ ty pos after, (execOp a.eval (opg dst op ty pos after (j, b))).run P w = .ok (.enter f vs) w)
    (hc : Calls P f vs w fun e w' => ∃ v, e = .returned v ∧ S w' ∧ wpAnyH P md ops Q S fuel (listed.setIfInBounds i true) (a.put dst v) w') : wpAnyH P md ops Q S (fuel + 1) listed a w := by
  obtain ⟨ty, pos, after, ho⟩ := opg_of hi
  refine wpAnyH_all hr (by simp) (fun j' hj => ?_)
  obtain rfl : j' = i := by simpa using hj
  refine wpOp_step ho fun K hK => ?_
  rw [if_pos (show Region.wanted (opg dst op ty pos after (j, b)) _ = true from by simp [Region.wanted, hg])]
  unfold Oper.wp
  rw [hrun ty pos after]
  refine hc.mono ?_
  rintro e w' ⟨v, rfl, h1, h2⟩
  exact hK _ _ ⟨h1, h2⟩
theorem wp_region_H {id : Nat} {a : Act} {w : World} (S : World → Prop) (hm : P.follows .mixedOrders = true)
    (h : wpAnyH P .any ops Q S ops.size (Array.replicate ops.size false) a w.drew) : (Code.region id ops true).wp P Q a w := wp_region_held hm h
end
end Go.Proofs.Ythfbfdkjgkkpcaa
