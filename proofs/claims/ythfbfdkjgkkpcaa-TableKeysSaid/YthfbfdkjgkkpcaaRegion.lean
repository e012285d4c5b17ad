/-
  A region that draws its order and ends in a store to a cell that it has loaded: up to the operation m the condition S holds, and each load is taken first. (After the library's own law on a held condition.)
-/
import Derived.Test.YthfbfdkjgkkpcaaOps
import Derived.OrdersHeld
import Derived.Deep.RegionHeld3
namespace Go.Proofs.Ythfbfdkjgkkpcaa
open Go Go.RowKit

section
variable {P : Program} {ops : Array Oper} {Q : Exit → Act → World → Prop} {md : Region.Mode} {m : Nat} {S : World → Prop}

/-- Whatever order is picked from here on; behind each operation S holds, or the operation m has come up. -/
def wpAnyM (P : Program) (md : Region.Mode) (ops : Array Oper) (Q : Exit → Act → World → Prop) (m : Nat) (S : World → Prop) : Nat → Array Bool → Act → World → Prop
  | 0, listed, a, w => Region.ready md ops listed = [] ∧ Q .normal a w
  | fuel + 1, listed, a, w =>
    (Region.ready md ops listed = [] → Q .normal a w) ∧
    ∀ i ∈ Region.ready md ops listed, wpOp P ops Q i (fun a' w' => ((listed.setIfInBounds i true).getD m false = true ∨ S w') ∧ wpAnyM P md ops Q m S fuel (listed.setIfInBounds i true) a' w') a w

theorem wpAny_of_M : ∀ (fuel : Nat) (listed : Array Bool) (a : Act) (w : World), wpAnyM P md ops Q m S fuel listed a w → wpAny P md ops Q fuel listed a w
  | 0, _, _, _, h => h
  | fuel + 1, _, _, _, h => ⟨h.1, fun i hi => wpOp_mono (fun a' w' h' => wpAny_of_M fuel _ a' w' h'.2) (h.2 i hi)⟩

theorem wpAnyM_first {i : Nat} {oi om : Oper} {v : Value} (hi : ops[i]? = some oi) (hm : ops[m]? = some om) (hedge : ∃ e ∈ om.after, Region.binds md e = true ∧ e.on = i) (hmi : m ≠ i)
    (hsel : ∀ (j : Nat) (o : Oper) cs b, ops[j]? = some o → o.op ≠ .select cs b)
    (hQ : ∀ c a w, Q (.panic c) (a.put oi.dst v) w → Q (.panic c) a w) :
    ∀ (fuel : Nat) (listed : Array Bool) (a : Act) (w : World),
      (∀ j oj, ops[j]? = some oj → j ≠ i → listed.getD j true = false → (∀ e ∈ oj.after, Region.binds md e = true → e.on ≠ i) → oi.apart ops oj = true) →
      i ∈ Region.ready md ops listed → listed.getD m false = false → YieldsIf P ops S oi v a → S w →
      wpAnyM P md ops Q m S fuel (listed.setIfInBounds i true) (a.put oi.dst v) w → wpAnyM P md ops Q m S (fuel + 1) listed a w := by
  intro fuel
  induction fuel with
  | zero =>
    intro listed a w _ hr _ hy hS H
    refine ⟨fun h => (by rw [h] at hr; cases hr), fun j hj => ?_⟩
    by_cases hji : j = i
    · subst hji; exact hy.wpOp hi hS ⟨.inr hS, H⟩
    · have := ready_mono hj hji
      rw [H.1] at this
      cases this
  | succ fuel ih =>
    intro listed a w hfree hr hlm hy hS H
    refine ⟨fun h => (by rw [h] at hr; cases hr), fun j hj => ?_⟩
    by_cases hji : j = i
    · subst hji; exact hy.wpOp hi hS ⟨.inr hS, H⟩
    · have h1 := H.2 j (ready_mono hj hji)
      obtain ⟨hjun, oj, hoj, hall⟩ := mem_ready.1 hj
      have hnot : ∀ e ∈ oj.after, Region.binds md e = true → e.on ≠ i := fun e he hb heq => by
        have h1 := hall e he hb
        have h0 := (mem_ready.1 hr).1
        rw [heq] at h1
        rcases Nat.lt_or_ge i listed.size with h' | h'
        · simp [h'] at h0 h1; rw [h0] at h1; cases h1
        · simp [Array.getElem?_eq_none h'] at h1
      have hjm : j ≠ m := by
        intro e
        subst e
        rw [hm] at hoj
        cases hoj
        obtain ⟨e, he, hb, ho⟩ := hedge
        exact hnot e he hb ho
      have h2 := wpOp_putIf hoj (hfree j oj hoj hji hjun hnot) (fun cs b => hsel i oi cs b hi) (fun cs b => hsel j oj cs b hoj) hQ hy h1
      have hfree' : ∀ k ok, ops[k]? = some ok → k ≠ i → (listed.setIfInBounds j true).getD k true = false →
          (∀ e ∈ ok.after, Region.binds md e = true → e.on ≠ i) → oi.apart ops ok = true := fun k ok hk hki hun hno => by
        refine hfree k ok hk hki ?_ hno
        by_cases hjk : j = k
        · subst hjk; exact hjun
        · rw [getD_set_ne true hjk] at hun; exact hun
      have hlm' : (listed.setIfInBounds j true).getD m false = false := by rw [getD_set_ne false hjm]; exact hlm
      have hlm2 : ((listed.setIfInBounds i true).setIfInBounds j true).getD m false = false := by
        rw [getD_set_ne false hjm, getD_set_ne false (Ne.symm hmi)]; exact hlm
      refine wpOp_mono (fun a' w' h3 => ?_) h2
      have hS' : S w' := h3.2.1.resolve_left (by rw [hlm2]; simp)
      refine ⟨.inr hS', ih (listed.setIfInBounds j true) a' w' hfree' (ready_mono hr (Ne.symm hji)) hlm' h3.1 hS' ?_⟩
      rw [Array.setIfInBounds_comm _ _ hji]
      exact h3.2.2

/-- m waits for i, by an edge of its own. -/
def waitsFor (md : Region.Mode) (ops : Array Oper) (m i : Nat) : Bool := match ops[m]? with | some om => om.after.any (fun e => Region.binds md e && e.on == i) && m != i | none => false
theorem waitsFor_spec {i : Nat} (h : waitsFor md ops m i = true) : ∃ om, ops[m]? = some om ∧ (∃ e ∈ om.after, Region.binds md e = true ∧ e.on = i) ∧ m ≠ i := by
  unfold waitsFor at h
  split at h
  · rename_i om hom
    simp only [Bool.and_eq_true, Array.any_eq_true', bne_iff_ne, ne_eq, beq_iff_eq] at h
    obtain ⟨⟨e, he, hb, ho⟩, hne⟩ := h
    exact ⟨om, hom, ⟨e, he, hb, ho⟩, hne⟩
  · cases h

theorem wpAnyM_take {i : Nat} {oi : Oper} {v : Value} {fuel : Nat} {listed : Array Bool} {a : Act} {w : World} (hi : ops[i]? = some oi)
    (hs : Region.noSelect ops = true) (hf : Region.free md ops listed i = true) (hr : (Region.ready md ops listed).contains i = true) (hwf : waitsFor md ops m i = true) (hlm : listed.getD m false = false)
    (hQ : ∀ c a w, Q (.panic c) (a.put oi.dst v) w → Q (.panic c) a w) (hy : YieldsIf P ops S oi v a) (hS : S w)
    (h : wpAnyM P md ops Q m S fuel (listed.setIfInBounds i true) (a.put oi.dst v) w) : wpAnyM P md ops Q m S (fuel + 1) listed a w := by
  obtain ⟨om, h1, h2, h3⟩ := waitsFor_spec hwf
  exact wpAnyM_first hi h1 h2 h3 (Region.noSelect_spec hs) hQ fuel listed a w (Region.free_spec hi hf) (by simpa using hr) hlm hy hS h

/-- The one operation that may come up now runs. -/
theorem wpAnyM_only {i : Nat} {oi : Oper} {fuel : Nat} {listed : Array Bool} {a : Act} {w : World} (hr : Region.ready md ops listed = [i]) (hi : ops[i]? = some oi)
    (h : ∀ K : Act → World → Prop, (∀ a' w', ((listed.setIfInBounds i true).getD m false = true ∨ S w') → wpAnyM P md ops Q m S fuel (listed.setIfInBounds i true) a' w' → K a' w') →
      if Region.wanted oi (yielded ops a.tmps) = true then Oper.wp P oi a w K Q else K (a.put oi.dst undef) w) : wpAnyM P md ops Q m S (fuel + 1) listed a w := by
  refine ⟨fun h0 => (by rw [hr] at h0; cases h0), fun j hj => ?_⟩
  rw [hr] at hj
  obtain rfl : j = i := by simpa using hj
  exact wpOp_step hi (fun K' hK => h K' (fun a' w' h1 h2 => hK a' w' ⟨h1, h2⟩))
theorem wpAnyM_done {listed : Array Bool} {a : Act} {w : World} (hr : Region.ready md ops listed = []) (h : Q .normal a w) : ∀ fuel, wpAnyM P md ops Q m S fuel listed a w
  | 0 => ⟨hr, h⟩
  | _ + 1 => ⟨fun _ => h, by rw [hr]; simp⟩
theorem wp_region_M {id : Nat} {a : Act} {w : World} (m : Nat) (S : World → Prop) (hm : P.follows .mixedOrders = true)
    (h : wpAnyM P .any ops Q m S ops.size (Array.replicate ops.size false) a w.drew) : (Code.region id ops true).wp P Q a w :=
  wp_region_any hm (wpAny_of_M _ _ _ _ h)
theorem append_ty (A : Array TypeId) (t t' : TypeId) (B : Array Value) : Builtin.append_ A t B = Builtin.append_ A t' B := rfl

/-- An operation as it stands in a region, without a guard. -/
abbrev opr (dst : Option Tmp) (op : Op) (ty : TypeId) (pos : String) (after : Array Edge) : Oper := ⟨dst, op, ty, pos, after, none⟩
theorem opr_of {i : Nat} {dst : Option Tmp} {op : Op} (hi : (ops[i]?).map (fun o => (o.dst, o.op, o.guard)) = some (dst, op, none)) : ∃ ty pos after, ops[i]? = some (opr dst op ty pos after) := by
  obtain ⟨o, ho, he⟩ := Option.map_eq_some_iff.1 hi
  simp only [Prod.mk.injEq] at he
  obtain ⟨rfl, rfl, h3⟩ := he
  cases o
  simp only at h3
  subst h3
  exact ⟨_, _, _, ho⟩
/-- What reads alike in every world that meets S is taken first. -/
theorem wpAnyM_takeO {i : Nat} {dst : Option Tmp} {op : Op} {v : Value} {fuel : Nat} {listed : Array Bool} {a : Act} {w : World} (hi : (ops[i]?).map (fun o => (o.dst, o.op, o.guard)) = some (dst, op, none))
    (hs : Region.noSelect ops = true) (hf : Region.free md ops listed i = true) (hr : (Region.ready md ops listed).contains i = true) (hwf : waitsFor md ops m i = true) (hlm : listed.getD m false = false)
    (hQ : ∀ c a w, Q (.panic c) (a.put dst v) w → Q (.panic c) a w) (hy : ∀ ty pos after W, S W → (execOp a.eval (opr dst op ty pos after)).run P W = .ok (.value v) W) (hS : S w)
    (h : wpAnyM P md ops Q m S fuel (listed.setIfInBounds i true) (a.put dst v) w) : wpAnyM P md ops Q m S (fuel + 1) listed a w := by
  obtain ⟨ty, pos, after, ho⟩ := opr_of hi
  exact wpAnyM_take ho hs hf hr hwf hlm hQ (.inl ⟨rfl, fun W hW => hy ty pos after W hW⟩) hS h
/-- The one operation that may come up now runs to a value. -/
theorem wpAnyM_val {i : Nat} {dst : Option Tmp} {op : Op} {fuel : Nat} {listed : Array Bool} {a : Act} {w w' : World} {v : Value} (hi : (ops[i]?).map (fun o => (o.dst, o.op, o.guard)) = some (dst, op, none))
    (hr : Region.ready md ops listed = [i]) (hrun : ∀ ty pos after, (execOp a.eval (opr dst op ty pos after)).run P w = .ok (.value v) w')
    (hS : (listed.setIfInBounds i true).getD m false = true ∨ S w') (h : wpAnyM P md ops Q m S fuel (listed.setIfInBounds i true) (a.put dst v) w') : wpAnyM P md ops Q m S (fuel + 1) listed a w := by
  obtain ⟨ty, pos, after, ho⟩ := opr_of hi
  refine wpAnyM_only hr ho fun K hK => ?_
  rw [if_pos (show Region.wanted (opr dst op ty pos after) _ = true from rfl)]
  unfold Oper.wp
  rw [hrun ty pos after]
  exact hK _ _ hS h
theorem wpAnyM_skip {i : Nat} {dst : Option Tmp} {op : Op} {fuel : Nat} {listed : Array Bool} {a : Act} {w w' : World} (hi : (ops[i]?).map (fun o => (o.dst, o.op, o.guard)) = some (dst, op, none))
    (hr : Region.ready md ops listed = [i]) (hrun : ∀ ty pos after, (execOp a.eval (opr dst op ty pos after)).run P w = .ok .skip w')
    (hS : (listed.setIfInBounds i true).getD m false = true ∨ S w') (h : wpAnyM P md ops Q m S fuel (listed.setIfInBounds i true) (a.put dst undef) w') : wpAnyM P md ops Q m S (fuel + 1) listed a w := by
  obtain ⟨ty, pos, after, ho⟩ := opr_of hi
  refine wpAnyM_only hr ho fun K hK => ?_
  rw [if_pos (show Region.wanted (opr dst op ty pos after) _ = true from rfl)]
  unfold Oper.wp
  rw [hrun ty pos after]
  exact hK _ _ hS h
/-- One operation out of those that may come up, run to a value. -/
theorem opM_val {i : Nat} {dst : Option Tmp} {op : Op} {fuel : Nat} {listed : Array Bool} {a : Act} {w w' : World} {v : Value} (hi : (ops[i]?).map (fun o => (o.dst, o.op, o.guard)) = some (dst, op, none))
    (hrun : ∀ ty pos after, (execOp a.eval (opr dst op ty pos after)).run P w = .ok (.value v) w')
    (hS : (listed.setIfInBounds i true).getD m false = true ∨ S w') (h : wpAnyM P md ops Q m S fuel (listed.setIfInBounds i true) (a.put dst v) w') :
    wpOp P ops Q i (fun a' w' => ((listed.setIfInBounds i true).getD m false = true ∨ S w') ∧ wpAnyM P md ops Q m S fuel (listed.setIfInBounds i true) a' w') a w := by
  obtain ⟨ty, pos, after, ho⟩ := opr_of hi
  refine wpOp_step ho fun K hK => ?_
  rw [if_pos (show Region.wanted (opr dst op ty pos after) _ = true from rfl)]
  unfold Oper.wp
  rw [hrun ty pos after]
  exact hK _ _ ⟨hS, h⟩
/-- One operation, a call of a function by its contract. -/
theorem opM_call {i : Nat} {dst : Option Tmp} {op : Op} {f : Nat} {vs : Array Value} {fuel : Nat} {listed : Array Bool} {a : Act} {w : World} (hi : (ops[i]?).map (fun o => (o.dst, o.op, o.guard)) = some (dst, op, none))
    (hrun : ∀ ty pos after, (execOp a.eval (opr dst op ty pos after)).run P w = .ok (.enter f vs) w)
    (hc : Calls P f vs w fun e w' => ∃ v, e = .returned v ∧ ((listed.setIfInBounds i true).getD m false = true ∨ S w') ∧ wpAnyM P md ops Q m S fuel (listed.setIfInBounds i true) (a.put dst v) w') :
    wpOp P ops Q i (fun a' w' => ((listed.setIfInBounds i true).getD m false = true ∨ S w') ∧ wpAnyM P md ops Q m S fuel (listed.setIfInBounds i true) a' w') a w := by
  obtain ⟨ty, pos, after, ho⟩ := opr_of hi
  refine wpOp_step ho fun K hK => ?_
  rw [if_pos (show Region.wanted (opr dst op ty pos after) _ = true from rfl)]
  unfold Oper.wp
  rw [hrun ty pos after]
  refine hc.mono ?_
  rintro e w' ⟨v, rfl, h1, h2⟩
  exact hK _ _ ⟨h1, h2⟩
theorem wpAnyM_one {i : Nat} {fuel : Nat} {listed : Array Bool} {a : Act} {w : World} (hr : Region.ready md ops listed = [i])
    (h : wpOp P ops Q i (fun a' w' => ((listed.setIfInBounds i true).getD m false = true ∨ S w') ∧ wpAnyM P md ops Q m S fuel (listed.setIfInBounds i true) a' w') a w) : wpAnyM P md ops Q m S (fuel + 1) listed a w := by
  refine ⟨fun h0 => (by rw [hr] at h0; cases h0), fun j hj => ?_⟩
  rw [hr] at hj
  obtain rfl : j = i := by simpa using hj
  exact h
theorem wpAnyM_two {i k : Nat} {fuel : Nat} {listed : Array Bool} {a : Act} {w : World} (hr : Region.ready md ops listed = [i, k])
    (h : wpOp P ops Q i (fun a' w' => ((listed.setIfInBounds i true).getD m false = true ∨ S w') ∧ wpAnyM P md ops Q m S fuel (listed.setIfInBounds i true) a' w') a w)
    (h' : wpOp P ops Q k (fun a' w' => ((listed.setIfInBounds k true).getD m false = true ∨ S w') ∧ wpAnyM P md ops Q m S fuel (listed.setIfInBounds k true) a' w') a w) : wpAnyM P md ops Q m S (fuel + 1) listed a w := by
  refine ⟨fun h0 => (by rw [hr] at h0; cases h0), fun j hj => ?_⟩
  rw [hr] at hj
  have : j = i ∨ j = k := by simpa using hj
  rcases this with rfl | rfl
  · exact h
  · exact h'
theorem ex_append {a : Act} {w w' : World} {s x : Operand} {T t0 : Nat} {v y v' : Value} (hr : (Builtin.append_ #[T, T] t0 #[v, y]).run P w = .ok v' w') (hs : a.eval s = v) (hx : a.eval x = y) {dst : Option Tmp} :
    ∀ ty pos after, (execOp a.eval (opr dst (.call { callee := .builtin .append, args := #[s, x], argTypes := #[T, T] }) ty pos after)).run P w = .ok (.value v') w' := fun ty pos after => by
  rw [append_ty _ t0 ty] at hr
  exact run_append_op (o := opr dst (.call { callee := .builtin .append, args := #[s, x], argTypes := #[T, T] }) ty pos after) rfl hs hx hr
theorem ex_lit {a : Act} {w w' : World} {x : Operand} {T : Nat} {u v' : Value} (hr : (Instr.buildSlice T 1 #[(0, u)]).run P w = .ok v' w') (hx : a.eval x = u) {dst : Option Tmp} :
    ∀ ty pos after, (execOp a.eval (opr dst (.buildSlice T 1 #[(0, x)]) ty pos after)).run P w = .ok (.value v') w' := fun ty pos after => run_lit_op (o := opr dst (.buildSlice T 1 #[(0, x)]) ty pos after) rfl hx hr
theorem ex_store {a : Act} {w : World} {x y : Operand} {T : Nat} {ad : Addr} {u v : Value} (hr : (storeVar T ad v).run P w = .ok () (w.setCell ad u)) (hx : a.eval x = .pointer (some ad)) (hy : a.eval y = v) {dst : Option Tmp} :
    ∀ ty pos after, (execOp a.eval (opr dst (.store T x y) ty pos after)).run P w = .ok .skip (w.setCell ad u) := fun ty pos after => by
  simp [execOp, hx, hy, Instr.storeAt, Instr.sureAddr, hr, Result.andThen]
theorem run_store_slice {w : World} {T : Nat} (hT : (P.info? T).map (·.size) = some 1) {ad : Addr} {old : Value} (hc : w.cell? ad = some old) (hf : w.frozen? ad = false) (ao : Option Addr) (n cap : Nat) :
    (storeVar T ad (.slice ao n cap)).run P w = .ok () (w.setCell ad (.slice ao n cap)) := by
  obtain ⟨i, hi, hs⟩ := Option.map_eq_some_iff.1 hT
  have h0 : ad.add 0 = ad := by simp [Addr.add]
  have hst : (store ad (.slice ao n cap)).run P w = .ok () (w.setCell ad (.slice ao n cap)) := by
    simp [store, Sem.run, hc, hf]
  simp [storeVar, sizeOf, typeInfo, hi, hs, Value.cells, storeCells, h0, hst, Result.andThen]
end
end Go.Proofs.Ythfbfdkjgkkpcaa
