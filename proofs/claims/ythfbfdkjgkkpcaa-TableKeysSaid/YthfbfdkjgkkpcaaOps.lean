/-
  The walk's laws of single operations over slices, in the words of YthfbfdkjgkkpcaaBase: each takes the values off the frame and hands on what the operation leaves.
-/
import Derived.Test.YthfbfdkjgkkpcaaBase
import Derived.Maps.AppendAt
import Derived.Laws.MakeOwn
namespace Go.Proofs.Ythfbfdkjgkkpcaa
open Go Go.RowKit

/-- T is a slice type over e: sz cells, by bytes an element. -/
structure Elem (P : Program) (T e sz by' : Nat) : Prop where
  und : P.underlying T = some (.slice e)
  pos : 0 < sz
  info : ∃ i z, P.info? e = some i ∧ i.zero = some z ∧ i.size = sz ∧ i.bytes = by' ∧ z.cells.size = sz

section
variable {P : Program} {ops : Array Oper} {Q : Exit → Act → World → Prop} {a : Act} {w : World} {rest : List Oper} {o : Oper}

theorem wpl_run (hw : Region.wanted o (yielded ops a.tmps) = true) {v : Value} {w' : World} (hrun : (execOp a.eval o).run P w = .ok (.value v) w')
    (h : wpList P ops Q rest (a.put o.dst v) w') : wpList P ops Q (o :: rest) a w := by
  unfold wpList
  rw [if_pos hw]
  left
  unfold Oper.wp
  rw [hrun]
  exact h
theorem wpl_skip (hw : Region.wanted o (yielded ops a.tmps) = true) {w' : World} (hrun : (execOp a.eval o).run P w = .ok .skip w')
    (h : wpList P ops Q rest (a.put o.dst undef) w') : wpList P ops Q (o :: rest) a w := by
  unfold wpList
  rw [if_pos hw]
  left
  unfold Oper.wp
  rw [hrun]
  exact h

theorem sizeOf_run {T e sz b : Nat} (hE : Elem P T e sz b) (w : World) : (sizeOf e).run P w = .ok sz w := by
  obtain ⟨i, z, hi, _, hs, _⟩ := hE.info
  simp [sizeOf, typeInfo, hi, hs]

/-- The address of an element that is there. -/
theorem run_indexAt {T e sz b : Nat} (hE : Elem P T e sz b) {v : Value} {n : Nat} {xs : List Value} (hR : Rd w e sz v n xs) (k : IntKind) (i : Int) (h0 : 0 ≤ i) (h1 : i < n) :
    ∃ ad, (Instr.indexAt T v (.int k i)).run P w = .ok (.pointer (some ad)) w ∧ (∀ j, j < sz → w.cell? (ad.add j) = xs[i.toNat * sz + j]?) ∧ ad.spot = none := by
  rcases hR.2.2 with ⟨rfl, h2⟩ | ⟨bl, off, cap, cur, fz, rfl, h2, h3, h4, h5, h6⟩
  · omega
  · refine ⟨⟨bl, off + i.toNat * sz, none⟩, ?_, ?_, rfl⟩
    · have hs := sizeOf_run hE w
      simp only [Instr.indexAt, asIntOf, Sem.run_bind, Sem.run_pure, Result.andThen_ok, run_underlying hE.und]
      simp only [h0, h1, and_self, if_true, Sem.run_bind, hs, Result.andThen_ok, Sem.run_pure, Addr.add_lit]
    · intro j hj
      have hlt : i.toNat * sz + j < n * sz := by
        have hn : i.toNat + 1 ≤ n := by omega
        have := Nat.mul_le_mul_right sz hn
        rw [Nat.add_mul, Nat.one_mul] at this
        omega
      rw [Addr.add_lit, Nat.add_assoc]
      exact hR.cell _ hlt

theorem wpl_indexAddr {T e sz b : Nat} (hE : Elem P T e sz b) (hw : Region.wanted o (yielded ops a.tmps) = true) {x ix : Operand} (ho : o.op = .indexAddr T x ix)
    {v : Value} {n : Nat} {xs : List Value} (hR : Rd w e sz v n xs) (hx : a.eval x = v) {k : IntKind} {i : Int} (hi : a.eval ix = .int k i) (h0 : 0 ≤ i) (h1 : i < n)
    (h : ∀ ad, (∀ j, j < sz → w.cell? (ad.add j) = xs[i.toNat * sz + j]?) → ad.spot = none → wpList P ops Q rest (a.put o.dst (.pointer (some ad))) w) : wpList P ops Q (o :: rest) a w := by
  obtain ⟨ad, hr, hc, hs⟩ := run_indexAt (w := w) hE hR k i h0 h1
  refine wpl_run hw (v := .pointer (some ad)) (w' := w) ?_ (h ad hc hs)
  simp [execOp, ho, hx, hi, hr, Sem.run_bind, Result.andThen]

/-- An element of one cell. -/
theorem wpl_indexAddr1 {T e b : Nat} (hE : Elem P T e 1 b) (hw : Region.wanted o (yielded ops a.tmps) = true) {x ix : Operand} (ho : o.op = .indexAddr T x ix)
    {v : Value} {n : Nat} {xs : List Value} (hR : Rd w e 1 v n xs) (hx : a.eval x = v) {k : IntKind} {i : Int} (hi : a.eval ix = .int k i) (h0 : 0 ≤ i) (h1 : i < n) (u : Value) (hu : xs[i.toNat]? = some u)
    (h : ∀ ad, w.cell? ad = some u → wpList P ops Q rest (a.put o.dst (.pointer (some ad))) w) : wpList P ops Q (o :: rest) a w := by
  refine wpl_indexAddr hE hw ho hR hx hi h0 h1 fun ad hc hs => h ad ?_
  have := hc 0 (by omega)
  rw [Nat.mul_one, Nat.add_zero, hu] at this
  simpa [Addr.add] using this

/-- A cut of a slice: x[lo:hi:mx]. -/
theorem run_cut {T e sz b : Nat} (hE : Elem P T e sz b) {ao : Option Addr} {n cap : Nat} {xs : List Value} (hR : Rd w e sz (.slice ao n cap) n xs) (l h m : Nat) (hl : l ≤ h) (hh : h ≤ n) (hm : h ≤ m) (hmc : m ≤ cap) :
    Rd w e sz (.slice (if m = l then ao else ao.map (·.add (l * sz))) (h - l) (m - l)) (h - l) ((xs.drop (l * sz)).take ((h - l) * sz)) := by
  rcases hR.2.2 with ⟨hv, h2⟩ | ⟨bl, off, cap', cur, fz, hv, h2, h3, h4, h5, h6⟩
  · cases hv
    obtain rfl : l = 0 := by omega
    obtain rfl : h = 0 := by omega
    obtain rfl : m = 0 := by omega
    refine ⟨?_, Nat.zero_le _, .inl ⟨by simp, rfl⟩⟩
    simp
  · cases hv
    have hlen : ((xs.drop (l * sz)).take ((h - l) * sz)).length = (h - l) * sz := by
      rw [List.length_take, List.length_drop, hR.1]
      have h7 : l * sz + (h - l) * sz ≤ n * sz := by rw [← Nat.add_mul]; exact Nat.mul_le_mul_right _ (by omega)
      omega
    have hb : off + l * sz + (h - l) * sz ≤ cur.size := by
      have h7 : l * sz + (h - l) * sz ≤ n * sz := by rw [← Nat.add_mul]; exact Nat.mul_le_mul_right _ (by omega)
      omega
    refine ⟨hlen, by have := hR.2.1; omega, .inr ?_⟩
    by_cases hml : m = l
    · obtain rfl : h = l := by omega
      refine ⟨bl, off, m - h, cur, fz, by simp [hml], by omega, by omega, h4, by simp; omega, by simp⟩
    · refine ⟨bl, off + l * sz, m - l, cur, fz, by simp [hml, Addr.add_lit], by omega, by omega, h4, hb, ?_⟩
      rw [← h6]
      have h7 : l * sz + (h - l) * sz ≤ n * sz := by rw [← Nat.add_mul]; exact Nat.mul_le_mul_right _ (by omega)
      rw [List.drop_take, List.take_take, List.drop_drop]
      congr 1
      omega

theorem run_bound {k : IntKind} (i : Int) (y : Nat) (code : BoundsCode) (w : World) (h0 : 0 ≤ i) (h1 : i ≤ y) : (Instr.sliceBound (.int k i) y code).run P w = .ok i.toNat w := by
  simp [Instr.sliceBound, asIntOf, h0, h1]

theorem Rd.shape {e sz : Nat} {v : Value} {n : Nat} {xs : List Value} (hR : Rd w e sz v n xs) : ∃ ao cap, v = .slice ao n cap ∧ n ≤ cap := by
  rcases hR.2.2 with ⟨rfl, h2⟩ | ⟨bl, off, cap, cur, fz, rfl, h2, _⟩
  · exact ⟨none, 0, by rw [h2], by omega⟩
  · exact ⟨_, cap, rfl, h2⟩

/-- x[lo:hi], both bounds numbers that fit. -/
theorem wpl_cut {T e sz b : Nat} (hE : Elem P T e sz b) (hw : Region.wanted o (yielded ops a.tmps) = true) {x lo hi : Operand} (ho : o.op = .slice T x (some lo) (some hi) none)
    {v : Value} {n : Nat} {xs : List Value} (hR : Rd w e sz v n xs) (hx : a.eval x = v) {k k' : IntKind} {l h : Int} (hlo : a.eval lo = .int k l) (hhi : a.eval hi = .int k' h) (h0 : 0 ≤ l) (h1 : l ≤ h) (h2 : h ≤ n)
    (hK : ∀ v', Rd w e sz v' (h.toNat - l.toNat) ((xs.drop (l.toNat * sz)).take ((h.toNat - l.toNat) * sz)) → (∀ g, v'.ownBlock = some g → v.ownBlock = some g) → wpList P ops Q rest (a.put o.dst v') w) : wpList P ops Q (o :: rest) a w := by
  obtain ⟨ao, cap, rfl, hc⟩ := hR.shape
  have hr := run_cut hE hR l.toNat h.toNat cap (by omega) (by omega) (by omega) (by omega)
  refine wpl_run hw (w' := w) ?_ (hK _ hr ?_)
  · have b1 := run_bound (P := P) (k := k') h cap .sliceAcap w (by omega) (by omega)
    have b2 := run_bound (P := P) (k := k) l h.toNat .sliceB w h0 (by omega)
    simp [execOp, ho, hx, hlo, hhi, Instr.sliceAt, Instr.slice, run_underlying hE.und, Instr.sliceBounds, b1, b2, sizeOf_run hE w, Result.andThen]
  · intro g hg
    cases ao with
    | none => simp [Value.ownBlock] at hg
    | some ad =>
      have e1 : (if cap = l.toNat then some ad else (some ad).map (·.add (l.toNat * sz))) = some (if cap = l.toNat then ad else ad.add (l.toNat * sz)) := by split <;> rfl
      rw [e1] at hg
      simp only [Value.ownBlock, Option.some.injEq] at hg ⊢
      rw [← hg]
      split
      · rfl
      · unfold Addr.add; split <;> rfl
/-- x[lo:]. -/
theorem wpl_cut_from {T e sz b : Nat} (hE : Elem P T e sz b) (hw : Region.wanted o (yielded ops a.tmps) = true) {x lo : Operand} (ho : o.op = .slice T x (some lo) none none)
    {v : Value} {n : Nat} {xs : List Value} (hR : Rd w e sz v n xs) (hx : a.eval x = v) {k : IntKind} {l : Int} (hlo : a.eval lo = .int k l) (h0 : 0 ≤ l) (h1 : l ≤ n)
    (hK : ∀ v', Rd w e sz v' (n - l.toNat) (xs.drop (l.toNat * sz)) → (∀ g, v'.ownBlock = some g → v.ownBlock = some g) → wpList P ops Q rest (a.put o.dst v') w) : wpList P ops Q (o :: rest) a w := by
  obtain ⟨ao, cap, rfl, hc⟩ := hR.shape
  have hr := run_cut hE hR l.toNat n cap (by omega) (by omega) (by omega) (by omega)
  have e0 : (xs.drop (l.toNat * sz)).take ((n - l.toNat) * sz) = xs.drop (l.toNat * sz) := by
    apply List.take_of_length_le
    rw [List.length_drop, hR.1, Nat.sub_mul]
    exact Nat.le_refl _
  rw [e0] at hr
  refine wpl_run hw (w' := w) ?_ (hK _ hr ?_)
  · have b2 := run_bound (P := P) (k := k) l n .sliceB w h0 (by omega)
    simp [execOp, ho, hx, hlo, Instr.sliceAt, Instr.slice, run_underlying hE.und, Instr.sliceBounds, b2, sizeOf_run hE w, Result.andThen]
  · intro g hg
    cases ao with
    | none => simp [Value.ownBlock] at hg
    | some ad =>
      have e1 : (if cap = l.toNat then some ad else (some ad).map (·.add (l.toNat * sz))) = some (if cap = l.toNat then ad else ad.add (l.toNat * sz)) := by split <;> rfl
      rw [e1] at hg
      simp only [Value.ownBlock, Option.some.injEq] at hg ⊢
      rw [← hg]
      split
      · rfl
      · unfold Addr.add; split <;> rfl
/-- x[:hi]. -/
theorem wpl_cut_to {T e sz b : Nat} (hE : Elem P T e sz b) (hw : Region.wanted o (yielded ops a.tmps) = true) {x hi : Operand} (ho : o.op = .slice T x none (some hi) none)
    {v : Value} {n : Nat} {xs : List Value} (hR : Rd w e sz v n xs) (hx : a.eval x = v) {k' : IntKind} {h : Int} (hhi : a.eval hi = .int k' h) (h1 : 0 ≤ h) (h2 : h ≤ n)
    (hK : ∀ v', Rd w e sz v' h.toNat (xs.take (h.toNat * sz)) → (∀ g, v'.ownBlock = some g → v.ownBlock = some g) → wpList P ops Q rest (a.put o.dst v') w) : wpList P ops Q (o :: rest) a w := by
  obtain ⟨ao, cap, rfl, hc⟩ := hR.shape
  have hr := run_cut hE hR 0 h.toNat cap (by omega) (by omega) (by omega) (by omega)
  simp only [Nat.zero_mul, List.drop_zero, Nat.sub_zero] at hr
  refine wpl_run hw (w' := w) ?_ (hK _ hr ?_)
  · have b1 := run_bound (P := P) (k := k') h cap .sliceAcap w (by omega) (by omega)
    simp [execOp, ho, hx, hhi, Instr.sliceAt, Instr.slice, run_underlying hE.und, Instr.sliceBounds, b1, sizeOf_run hE w, Result.andThen]
  · intro g hg
    cases ao with
    | none => simp [Value.ownBlock] at hg
    | some ad =>
      have e1 : (if cap = 0 then some ad else (some ad).map (·.add 0)) = some ad := by split <;> rfl
      rw [e1] at hg
      exact hg

/-- append(v, x...), v the call's own, x whatever reads as a slice. -/
theorem run_append_rd {T e sz b ty : Nat} (hE : Elem P T e sz b) {B : Nat} {v : Value} {n : Nat} {xs : List Value} (hown : w.ownsRow B e sz v n xs) {x : Value} {m : Nat} {ys : List Value} (hR : Rd w e sz x m ys)
    (h1 : ∀ u ∈ ys, u.oneCell' = true) (h63 : n + m ≤ maxLen) (hb : (n + m) * b ≤ 140737488355328) (hB : B ≤ w.heap.size) :
    ∃ v' w', (Builtin.append_ #[T, T] ty #[v, x]).run P w = .ok v' w' ∧ w'.ownsRow B e sz v' (n + m) (xs ++ ys) ∧ w.grownBy w' v.ownBlock ∧ (v'.ownBlock = v.ownBlock ∨ v'.ownBlock = some w.heap.size) := by
  obtain ⟨i, z, hi, hz, hs, hby, hzs⟩ := hE.info
  rcases hR.2.2 with ⟨rfl, h2⟩ | ⟨bl, off, cap, cur, fz, rfl, h2, h3, h4, h5, h6⟩
  · subst h2
    obtain rfl : ys = [] := List.eq_nil_of_length_eq_zero (by simpa using hR.1)
    exact ⟨v, w, run_append_owned_none (P := P) w B T ty e i sz hE.und hi v n xs hown, by simpa using hown, World.grownBy.refl _ _, .inl rfl⟩
  · obtain ⟨v', w', r1, r2, r3, _, r5⟩ := run_append_own_at (P := P) w B T ty e i z sz b hE.und hi hz hs hby hzs hE.pos v n xs hown ⟨bl, off, none⟩ m cap ys hR.1 (by
      intro j u hj
      have hlt : j < m * sz := by rw [← hR.1]; exact (List.getElem?_eq_some_iff.1 hj).1
      rw [Addr.add_lit, hR.cell j hlt]
      exact hj) h1 h63 hb hB
    exact ⟨v', w', r1, r2, r3, r5⟩

theorem wpl_append {T e sz b : Nat} (hE : Elem P T e sz b) (hw : Region.wanted o (yielded ops a.tmps) = true) {s x : Operand} (ho : o.op = .call { callee := .builtin .append, args := #[s, x], argTypes := #[T, T] })
    {v : Value} {B n : Nat} {xs : List Value} (hown : w.ownsRow B e sz v n xs) (hs : a.eval s = v) {y : Value} {m : Nat} {ys : List Value} (hR : Rd w e sz y m ys) (hx : a.eval x = y)
    (h1 : ∀ u ∈ ys, u.oneCell' = true) (h63 : n + m ≤ maxLen) (hb : (n + m) * b ≤ 140737488355328) (hB : B ≤ w.heap.size)
    (hK : ∀ v' w', w'.ownsRow B e sz v' (n + m) (xs ++ ys) → Upd v.ownBlock.toList w w' → (v'.ownBlock = v.ownBlock ∨ v'.ownBlock = some w.heap.size) → wpList P ops Q rest (a.put o.dst v') w') : wpList P ops Q (o :: rest) a w := by
  obtain ⟨v', w', r1, r2, r3, r4⟩ := run_append_rd (P := P) (ty := o.type) hE hown hR h1 h63 hb hB
  refine wpl_run hw (v := v') (w' := w') ?_ (hK v' w' r2 (Upd.grown r3 (fun k hk => by rw [hk]; simp)) r4)
  simp [execOp, ho, resolve, invoke, builtin, hs, hx, r1, Result.andThen]

theorem fold_get (l : List Value) : ∀ (k off : Nat) (arr : Array Value), off + k + l.length ≤ arr.size → ∀ i,
    ((l.zipIdx k).foldl (fun (cs : Array Value) (p : Value × Nat) => cs.setIfInBounds (off + p.2) p.1) arr)[i]? = if off + k ≤ i ∧ i < off + k + l.length then l[i - (off + k)]? else arr[i]? := by
  induction l with
  | nil => intro k off arr _ i; simp; omega
  | cons c l ih =>
    intro k off arr hs i
    simp only [List.zipIdx_cons, List.foldl_cons, List.length_cons] at hs ⊢
    rw [ih (k + 1) off _ (by simp; omega) i]
    by_cases h1 : off + (k + 1) ≤ i ∧ i < off + (k + 1) + l.length
    · rw [if_pos h1, if_pos (by omega)]
      obtain ⟨m, hm⟩ : ∃ m, i - (off + k) = m + 1 := ⟨i - (off + k) - 1, by omega⟩
      rw [hm, List.getElem?_cons_succ]
      congr 1
      omega
    · rw [if_neg h1, Array.getElem?_setIfInBounds]
      by_cases h2 : off + k = i
      · subst h2
        rw [if_pos rfl, if_pos (by omega), if_pos (by omega)]
        simp
      · rw [if_neg h2, if_neg (by omega)]

theorem fold_all (cs arr : Array Value) (h : arr.size = cs.size) :
    (cs.zipIdx.foldl (fun (acc : Array Value) (p : Value × Nat) => acc.setIfInBounds (0 + p.2) p.1) arr) = cs := by
  rw [← Array.foldl_toList, Array.toList_zipIdx]
  apply Array.ext_getElem?
  intro i
  rw [fold_get cs.toList 0 0 arr (by simp [h])]
  by_cases hi : i < cs.size
  · simp [hi]
  · have h1 : cs.size ≤ i := by omega
    simp [hi]
    omega

/-- []T{x}: one element. -/
theorem run_lit {T e sz b : Nat} (hE : Elem P T e sz b) (u : Value) (hc : u.cells.size = sz) (hs : sz ≤ 16777216) :
    (Instr.buildSlice T 1 #[(0, u)]).run P w = .ok (.slice (some ⟨w.heap.size, 0, none⟩) 1 1) (w.alloc (.cells u.cells e)) := by
  obtain ⟨i, z, hi, hz, hsz, hby, hzs⟩ := hE.info
  have hp := hE.pos
  have hne : ¬ (1 * sz = 0) := by omega
  have hbig : ¬ (1 * sz > 2 ^ 24) := by omega
  have hzero : (zeroValue e).run P w = .ok z w := by simp [zeroValue, typeInfo, hi, hz]
  have hf : Instr.fill (fun i => some (i * sz, sz)) ((Array.range (1 * sz)).map (z.cells[· % z.cells.size]!)) [(0, u)] = some u.cells := by
    simp only [Instr.fill, hc, Nat.zero_mul, Nat.zero_add, Array.size_map, Array.size_range, Nat.one_mul, ne_eq, not_true_eq_false, gt_iff_lt, Nat.lt_irrefl, decide_false, Bool.or_self, Bool.false_eq_true, if_false]
    have h3 := fold_all u.cells ((Array.range sz).map (z.cells[· % z.cells.size]!)) (by simp [hc])
    simp only [Nat.zero_add] at h3
    exact congrArg some h3
  simp only [Instr.buildSlice, Sem.run_bind, run_underlying hE.und, Result.andThen_ok, sizeOf_run hE w, if_neg hbig, if_neg hne, hzero, Sem.run_pure, hf, newRow]
  rfl

theorem wpl_lit {T e sz b : Nat} (hE : Elem P T e sz b) (hw : Region.wanted o (yielded ops a.tmps) = true) {x : Operand} (ho : o.op = .buildSlice T 1 #[(0, x)])
    {u : Value} (hx : a.eval x = u) {cs : List Value} (hc : u.cells = cs.toArray) (hn : cs.length = sz) (hs : sz ≤ 16777216)
    (hK : ∀ v w', w'.ownsRow w.heap.size e sz v 1 cs → Upd [] w w' → v.ownBlock = some w.heap.size → wpList P ops Q rest (a.put o.dst v) w') : wpList P ops Q (o :: rest) a w := by
  have hr := run_lit (w := w) hE u (by rw [hc]; simpa using hn) hs
  refine wpl_run hw (v := .slice (some ⟨w.heap.size, 0, none⟩) 1 1) (w' := w.alloc (.cells u.cells e)) ?_ (hK _ _ ?_ (Upd.alloc _ _ _) rfl)
  · simp [execOp, ho, hx, hr, Result.andThen]
  · refine ⟨by simpa using hn, .inr ⟨w.heap.size, 1, u.cells, rfl, Nat.le_refl _, heap_alloc_new w _, Nat.le_refl _, by decide, ?_, ?_⟩⟩
    · rw [hc]; simpa using hn
    · rw [hc]; simp [← hn]
theorem wpl_lit0 {T e sz b : Nat} (hE : Elem P T e sz b) (hw : Region.wanted o (yielded ops a.tmps) = true) (ho : o.op = .buildSlice T 0 #[])
    (hK : ∀ v w', w'.ownsRow w.heap.size e sz v 0 [] → Upd [] w w' → v.ownBlock = some w.heap.size → wpList P ops Q rest (a.put o.dst v) w') : wpList P ops Q (o :: rest) a w := by
  have hr : (Instr.buildSlice T 0 #[]).run P w = .ok (.slice (some ⟨w.heap.size, 0, none⟩) 0 0) (w.alloc (.cells #[] e)) := by
    simp [Instr.buildSlice, Sem.run_bind, run_underlying hE.und, Result.andThen_ok, sizeOf_run hE w, Instr.fill, newRow]
    exact congrArg (fun c => w.alloc (.cells c e)) (Array.eq_empty_of_size_eq_zero (by simp))
  refine wpl_run hw (v := .slice (some ⟨w.heap.size, 0, none⟩) 0 0) (w' := w.alloc (.cells #[] e)) ?_ (hK _ _ ?_ (Upd.alloc _ _ _) rfl)
  · simp [execOp, ho, hr, Result.andThen]
  · exact ⟨by simp, .inr ⟨w.heap.size, 0, #[], rfl, Nat.le_refl _, heap_alloc_new w _, Nat.le_refl _, by decide, by simp, by simp⟩⟩

/-- Behind a step that turns a row of the call's own: of what was there at the call's begin nothing more has turned. -/
theorem Upd.own {S : List Nat} {w0 w1 w2 : World} {v : Value} {e sz n : Nat} {xs : List Value} (h : Upd S w0 w1) (hown : w1.ownsRow w0.heap.size e sz v n xs) (hU : Upd v.ownBlock.toList w1 w2) : Upd S w0 w2 :=
  h.trans hU (fun i hi hlt => by
    cases hv : v.ownBlock with
    | none => rw [hv] at hi; cases hi
    | some g =>
      rw [hv] at hi
      simp at hi
      have := hown.lt g hv
      omega)

/-- append of bytes to bytes of the call's own. -/
theorem wpl_append_by {T : Nat} (hE : Elem P T 5 1 1) (hw : Region.wanted o (yielded ops a.tmps) = true) {s x : Operand} (ho : o.op = .call { callee := .builtin .append, args := #[s, x], argTypes := #[T, T] })
    {S : List Nat} {w0 : World} (hU : Upd S w0 w) {v y : Value} {l l2 : List UInt8} (hown : OwnBy w w0.heap.size v l) (hs : a.eval s = v) (hR : By w y l2) (hx : a.eval x = y) (hb : l.length + l2.length ≤ 1073741824)
    (hK : ∀ v' w', OwnBy w' w0.heap.size v' (l ++ l2) → Upd v.ownBlock.toList w w' → Upd S w0 w' → (v'.ownBlock = v.ownBlock ∨ v'.ownBlock = some w.heap.size) → wpList P ops Q rest (a.put o.dst v') w') : wpList P ops Q (o :: rest) a w := by
  refine wpl_append hE hw ho hown hs hR hx (enc_oneCell l2) (by unfold maxLen; omega) (by omega) hU.size ?_
  intro v' w' h1 h2 h3
  rw [← List.map_append, ← List.length_append] at h1
  exact hK v' w' h1 h2 (hU.own hown h2) h3

/-- []byte{b}. -/
theorem wpl_lit_byte {T : Nat} (b : UInt8) (hE : Elem P T 5 1 1) (hw : Region.wanted o (yielded ops a.tmps) = true) {x : Operand} (ho : o.op = .buildSlice T 1 #[(0, x)])
    (hx : a.eval x = enc b)
    (hK : ∀ v w', OwnBy w' w.heap.size v [b] → Upd [] w w' → v.ownBlock = some w.heap.size → wpList P ops Q rest (a.put o.dst v) w') : wpList P ops Q (o :: rest) a w :=
  wpl_lit hE hw ho hx (cs := [enc b]) rfl rfl (by omega) hK

/-- The address of a byte of the call's own, and what a store there leaves. -/
theorem wpl_indexAddr_own {T : Nat} (hE : Elem P T 5 1 1) (hw : Region.wanted o (yielded ops a.tmps) = true) {x ix : Operand} (ho : o.op = .indexAddr T x ix)
    {B : Nat} {v : Value} {l : List UInt8} (hown : OwnBy w B v l) (hx : a.eval x = v) {k : IntKind} {i : Int} (hi : a.eval ix = .int k i) (h0 : 0 ≤ i) (h1 : i < l.length)
    (hK : ∀ ad, w.cell? ad = some (enc (l.getD i.toNat 0)) → w.frozen? ad = false → (∀ b, OwnBy (w.setCell ad (enc b)) B v (l.set i.toNat b) ∧ Upd v.ownBlock.toList w (w.setCell ad (enc b))) → wpList P ops Q rest (a.put o.dst (.pointer (some ad))) w) : wpList P ops Q (o :: rest) a w := by
  rcases hown.2 with ⟨rfl, h2⟩ | ⟨g, cap, cur, rfl, hBg, hg, hnc, hcm, hcs, htk⟩
  · omega
  · have hlt : i.toNat < l.length := by omega
    have hr : (Instr.indexAt T (.slice (some ⟨g, 0, none⟩) l.length cap) (.int k i)).run P w = .ok (.pointer (some ⟨g, i.toNat, none⟩)) w := by
      have hs := sizeOf_run hE w
      simp only [Instr.indexAt, asIntOf, Sem.run_bind, Sem.run_pure, Result.andThen_ok, run_underlying hE.und]
      simp only [h0, h1, and_self, if_true, Sem.run_bind, hs, Result.andThen_ok, Sem.run_pure, Addr.add_lit, Nat.mul_one, Nat.zero_add]
    refine wpl_run hw (v := .pointer (some ⟨g, i.toNat, none⟩)) (w' := w) ?_ (hK _ ?_ ?_ ?_)
    · simp [execOp, ho, hx, hi, hr, Result.andThen]
    · rw [World.ownsRow.cellAt hown i.toNat (by omega)]
      simp [List.getD, hlt]
    · exact World.ownsRow.frozenAt hown i.toNat
    · intro b
      refine ⟨?_, Upd.setCell _ _ _ (by simp [Value.ownBlock])⟩
      have h := World.ownsRow.stored hown i.toNat (enc b)
      unfold OwnBy
      rw [List.length_set, List.map_set]
      exact h.1

/-- make([]byte, n). -/
theorem wpl_make_by {T : Nat} (hE : Elem P T 5 1 1) (hz : ∀ i, P.info? 5 = some i → i.zero = some (.int .u8 0)) (hw : Region.wanted o (yielded ops a.tmps) = true) {l c : Operand} (ho : o.op = .makeSlice T l c)
    {k k' : IntKind} {n : Nat} (hl : a.eval l = .int k n) (hc : a.eval c = .int k' n) (hb : n ≤ 1073741824)
    (hK : ∀ v w', OwnBy w' w.heap.size v (List.replicate n 0) → Upd [] w w' → wpList P ops Q rest (a.put o.dst v) w') : wpList P ops Q (o :: rest) a w := by
  obtain ⟨i, z, hi, hz', hs, hby, _⟩ := hE.info
  obtain ⟨w', hr, h1, h2⟩ := run_make_full (P := P) w w.heap.size T 5 i (.int .u8 0) 1 hE.und hi (hz i hi) hs k k' n (by rw [hby]; omega) (by unfold maxLen; omega) (Nat.le_refl _)
  refine wpl_run hw (v := .slice (some ⟨w.heap.size, 0, none⟩) n n) (w' := w') ?_ (hK _ _ ?_ (Upd.grown h2 (fun _ h => by cases h)))
  · simp [execOp, ho, hl, hc, hr, Result.andThen]
  · have e1 : (madeCells (Value.int .u8 0).cells (n * 1)).toList = (List.replicate n (0 : UInt8)).map enc := by
      rw [Nat.mul_one]
      show (madeCells #[.int .u8 0] n).toList = _
      rw [toList_madeCells_one, List.map_replicate]
      rfl
    rw [e1] at h1
    unfold OwnBy
    rw [List.length_replicate]
    exact h1

theorem Rd.new {e sz n cap : Nat} {xs : List Value} {cur : Array Value} (hl : xs.length = n * sz) (hn : n ≤ cap) (hm : cap ≤ maxLen) (hc : cur.toList.take (n * sz) = xs) (hs : cur.size = cap * sz) :
    Rd (w.alloc (.cells cur e)) e sz (.slice (some ⟨w.heap.size, 0, none⟩) n cap) n xs := by
  refine ⟨hl, Nat.le_trans hn hm, .inr ⟨w.heap.size, 0, cap, cur, (0, 0), rfl, hn, hm, heap_alloc_new w _, ?_, by simpa using hc⟩⟩
  rw [hs, Nat.zero_add]; exact Nat.mul_le_mul_right _ hn

/-- append to a slice that has no room behind its end: what was there stays as it was. -/
theorem run_append_full {T e sz b ty : Nat} (hE : Elem P T e sz b) {ao : Option Addr} {n : Nat} {xs : List Value} (hR : Rd w e sz (.slice ao n n) n xs) {y : Value} {m : Nat} {ys : List Value} (hY : Rd w e sz y m ys)
    (h63 : n + m ≤ maxLen) (hb : (n + m) * b ≤ 140737488355328) :
    ∃ v' w', (Builtin.append_ #[T, T] ty #[.slice ao n n, y]).run P w = .ok v' w' ∧ Rd w' e sz v' (n + m) (xs ++ ys) ∧ Upd [] w w' := by
  obtain ⟨i, z, hi, hz, hs, hby, hzs⟩ := hE.info
  have hsz := sizeOf_run hE w
  have hcell : ∀ {v : Value} {k : Nat} {zs : List Value}, Rd w e sz v k zs → ∀ bl off cap, v = .slice (some ⟨bl, off, none⟩) k cap → ∀ j u, zs[j]? = some u → w.cell? ((⟨bl, off, none⟩ : Addr).add j) = some u := by
    intro v k zs h bl off cap hv j u hj
    subst hv
    have hlt : j < k * sz := by rw [← h.1]; exact (List.getElem?_eq_some_iff.1 hj).1
    rw [Addr.add_lit, h.cell j hlt]
    exact hj
  have hsmall : n + m ≤ 9223372036854775807 := by simp only [maxLen] at h63; omega
  have grown : ∀ old, old < n + m → xs.length = n * sz → ys.length = m * sz → Rd (w.drew.alloc (.cells (xs.toArray ++ ys.toArray ++ Builtin.zeroCells z.cells (grownCap w (n + m) old e - (n + m))) e)) e sz
        (.slice (some ⟨w.heap.size, 0, none⟩) (n + m) (grownCap w (n + m) old e)) (n + m) (xs ++ ys) ∧ Upd [] w (w.drew.alloc (.cells (xs.toArray ++ ys.toArray ++ Builtin.zeroCells z.cells (grownCap w (n + m) old e - (n + m))) e)) := by
    intro old _ h1 h2
    have hge := grownCap_ge w (n + m) old e
    refine ⟨Rd.new (w := w.drew) (by rw [List.length_append, h1, h2, Nat.add_mul]) hge (grownCap_le_maxLen w _ _ _ h63) ?_ ?_, (Upd.drew [] w).trans0 (Upd.alloc [] _ _)⟩
    · simp only [Array.toList_append]
      rw [List.take_append_of_le_length (by simp [h1, h2, Nat.add_mul])]
      rw [List.take_of_length_le (by simp [h1, h2, Nat.add_mul])]
    · simp only [Array.size_append, List.size_toArray, size_zeroCells, h1, h2, hzs, ← Nat.add_mul]
      congr 1
      omega
  rcases hY.2.2 with ⟨rfl, h2⟩ | ⟨bl, off, cap, cur, fz, rfl, h2, h3, h4, h5, h6⟩
  · subst h2
    obtain rfl : ys = [] := List.eq_nil_of_length_eq_zero (by simpa using hY.1)
    refine ⟨.slice ao n n, w, ?_, by simpa using hR, Upd.refl _ _⟩
    cases ao <;> simp [Builtin.append_, run_underlying hE.und, sizeOf, typeInfo, hi, Builtin.lenOf, Builtin.firstCells, storeCells]
  · by_cases hm0 : m = 0
    · subst hm0
      obtain rfl : ys = [] := List.eq_nil_of_length_eq_zero (by simpa using hY.1)
      refine ⟨.slice ao n n, w, ?_, by simpa using hR, Upd.refl _ _⟩
      cases ao <;> simp [Builtin.append_, run_underlying hE.und, sizeOf, typeInfo, hi, Builtin.lenOf, Builtin.firstCells, storeCells, loadCells, loadCellsFrom]
    · rcases hR.2.2 with ⟨hv, hn0⟩ | ⟨bl', off', cap', cur', fz', hv, g2, g3, g4, g5, g6⟩
      · cases hv
        obtain rfl : xs = [] := List.eq_nil_of_length_eq_zero (by simpa using hR.1)
        have hr := run_append_nil (P := P) w T ty e i z hE.und hi hz ⟨bl, off, none⟩ m cap ys (by rw [hs]; exact hY.1) (hcell hY bl off cap rfl) (by omega) (by omega) (by rw [hby]; simp only [Nat.zero_add] at hb; omega)
        have hg := grown 0 (by omega) hR.1 hY.1
        simp only [Nat.zero_add, List.nil_append, Array.empty_append] at hg ⊢
        exact ⟨_, _, hr, hg⟩
      · cases hv
        have hr := run_append_grow (P := P) w T ty e i z hE.und hi hz ⟨bl', off', none⟩ n n xs (by rw [hs]; exact hR.1) (hcell hR bl' off' n rfl) ⟨bl, off, none⟩ m cap ys (by rw [hs]; exact hY.1) (hcell hY bl off cap rfl) (by omega) (by omega) (growslice_fits (by omega) (by rw [hby]; exact hb))
        exact ⟨_, _, hr, grown n (by omega) hR.1 hY.1⟩

/-- The step of a drawn region: an operation that runs. -/
theorem step_run {K : Act → World → Prop} (hw : Region.wanted o (yielded ops a.tmps) = true) {v : Value} {w' : World} (hrun : (execOp a.eval o).run P w = .ok (.value v) w') (h : K (a.put o.dst v) w') :
    if Region.wanted o (yielded ops a.tmps) = true then Oper.wp P o a w K Q else K (a.put o.dst undef) w := by
  rw [if_pos hw]
  unfold Oper.wp
  rw [hrun]
  exact h
theorem run_append_op {s x : Operand} {T : Nat} (ho : o.op = .call { callee := .builtin .append, args := #[s, x], argTypes := #[T, T] }) {v y v' : Value} {w' : World} (hs : a.eval s = v) (hx : a.eval x = y)
    (hr : (Builtin.append_ #[T, T] o.type #[v, y]).run P w = .ok v' w') : (execOp a.eval o).run P w = .ok (.value v') w' := by
  simp [execOp, ho, resolve, invoke, builtin, hs, hx, hr, Result.andThen]

theorem run_lit_op {x : Operand} {T : Nat} (ho : o.op = .buildSlice T 1 #[(0, x)]) {u v' : Value} {w' : World} (hx : a.eval x = u)
    (hr : (Instr.buildSlice T 1 #[(0, u)]).run P w = .ok v' w') : (execOp a.eval o).run P w = .ok (.value v') w' := by
  simp [execOp, ho, hx, hr, Result.andThen]

end
end Go.Proofs.Ythfbfdkjgkkpcaa
