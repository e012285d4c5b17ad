/-
  A slice literal of any number of elements.
-/
import Derived.Test.YthfbfdkjgkkpcaaOps
namespace Go.Proofs.Ythfbfdkjgkkpcaa
open Go Go.RowKit

theorem fill_row (sz : Nat) : ∀ (us : List Value) (k : Nat) (arr : Array Value) (acc : List Value), (∀ u ∈ us, u.cells.size = sz) → arr.size = (k + us.length) * sz → arr.toList.take (k * sz) = acc →
    Instr.fill (fun i => some (i * sz, sz)) arr ((us.zipIdx k).map fun p => (p.2, p.1)) = some (acc ++ us.flatMap (fun u => u.cells.toList)).toArray := by
  intro us
  induction us with
  | nil =>
    intro k arr acc _ hs ha
    simp only [List.length_nil, Nat.add_zero] at hs
    rw [List.take_of_length_le (by simp [hs])] at ha
    simp [Instr.fill, ← ha]
  | cons u us ih =>
    intro k arr acc hu hs ha
    have hsz : u.cells.size = sz := hu u (by simp)
    have hb : k * sz + sz ≤ arr.size := by
      rw [hs, List.length_cons, ← Nat.succ_mul]
      exact Nat.mul_le_mul_right _ (by omega)
    simp only [List.zipIdx_cons, List.map_cons, Instr.fill, hsz]
    rw [if_neg (by simp; omega)]
    have hf : (u.cells.zipIdx.foldl (fun (cs : Array Value) (x : Value × Nat) => cs.setIfInBounds (k * sz + x.2) x.1) arr) = u.cells.toList.zipIdx.foldl (fun (cs : Array Value) (p : Value × Nat) => cs.setIfInBounds (k * sz + p.2) p.1) arr := by
      rw [← Array.foldl_toList, Array.toList_zipIdx]
    have hget : ∀ i, (u.cells.zipIdx.foldl (fun (cs : Array Value) (x : Value × Nat) => cs.setIfInBounds (k * sz + x.2) x.1) arr)[i]? = if k * sz ≤ i ∧ i < k * sz + sz then u.cells.toList[i - k * sz]? else arr[i]? := by
      intro i
      rw [hf, fold_get u.cells.toList 0 (k * sz) arr (by simp [hsz]; omega) i]
      simp [hsz]
    have hsize : (u.cells.zipIdx.foldl (fun (cs : Array Value) (x : Value × Nat) => cs.setIfInBounds (k * sz + x.2) x.1) arr).size = arr.size := by
      rw [hf]
      generalize u.cells.toList.zipIdx = l
      clear hget hf hb ih ha hs
      induction l generalizing arr with
      | nil => rfl
      | cons p l ih2 => rw [List.foldl_cons, ih2]; simp
    have hih := ih (k + 1) _ (acc ++ u.cells.toList) (fun v hv => hu v (List.mem_cons_of_mem _ hv)) (by rw [hsize, hs, List.length_cons]; congr 1; omega) (by
      have hk1 : (k + 1) * sz = k * sz + sz := Nat.succ_mul k sz
      apply List.ext_getElem?
      intro i
      rw [List.getElem?_take, Array.getElem?_toList, hget i, hk1]
      have hacc : acc.length = k * sz := by rw [← ha]; simp; omega
      by_cases h1 : i < k * sz
      · rw [if_pos (by omega), if_neg (by omega), List.getElem?_append_left (by omega), ← ha, List.getElem?_take, if_pos h1, Array.getElem?_toList]
      · by_cases h2 : i < k * sz + sz
        · rw [if_pos h2, if_pos (by omega), List.getElem?_append_right (by omega), hacc]
        · rw [if_neg h2, List.getElem?_eq_none]
          simp [hacc, hsz]
          omega)
    rw [show (fun (cs : Array Value) (x : Value × Nat) => match x with | (c, j) => cs.setIfInBounds (k * sz + j) c) = fun (cs : Array Value) (x : Value × Nat) => cs.setIfInBounds (k * sz + x.2) x.1 from rfl]
    rw [hih]
    simp

section
variable {P : Program} {w : World} {ops : Array Oper} {Q : Exit → Act → World → Prop} {rest : List Oper} {o : Oper} {a : Act}
theorem run_litN {T e sz b : Nat} (hE : Elem P T e sz b) (us : List Value) (hc : ∀ u ∈ us, u.cells.size = sz) (h0 : us ≠ []) (hs : us.length * sz ≤ 16777216) :
    (Instr.buildSlice T us.length ((us.zipIdx 0).map fun p => (p.2, p.1)).toArray).run P w = .ok (.slice (some ⟨w.heap.size, 0, none⟩) us.length us.length) (w.alloc (.cells (us.flatMap (fun u => u.cells.toList)).toArray e)) := by
  obtain ⟨i, z, hi, hz, hsz, hby, hzs⟩ := hE.info
  have hp := hE.pos
  have hl : 0 < us.length := List.length_pos_iff.2 h0
  have hne : ¬ (us.length * sz = 0) := Nat.ne_of_gt (Nat.mul_pos hl hp)
  have hbig : ¬ (us.length * sz > 2 ^ 24) := by omega
  have hzero : (zeroValue e).run P w = .ok z w := by simp [zeroValue, typeInfo, hi, hz]
  have hf := fill_row sz us 0 ((Array.range (us.length * sz)).map (z.cells[· % z.cells.size]!)) [] hc (by simp) (by simp)
  simp only [Instr.buildSlice, Sem.run_bind, run_underlying hE.und, Result.andThen_ok, sizeOf_run hE w, if_neg hbig, if_neg hne, hzero, Sem.run_pure, hf, newRow, List.nil_append]
  rfl
theorem wpl_litN {T e sz b : Nat} (hE : Elem P T e sz b) (us : List Value) (hc : ∀ u ∈ us, u.cells.size = sz) (h0 : us ≠ []) (hs : us.length * sz ≤ 16777216) (hw : Region.wanted o (yielded ops a.tmps) = true) {n : Nat} {xs : Array (Nat × Operand)} (ho : o.op = .buildSlice T n xs) (hn : n = us.length)
    (hx : xs.map (fun p => (p.1, a.eval p.2)) = ((us.zipIdx 0).map fun p => (p.2, p.1)).toArray)
    (hK : wpList P ops Q rest (a.put o.dst (.slice (some ⟨w.heap.size, 0, none⟩) n n)) (w.alloc (.cells (us.flatMap (fun u => u.cells.toList)).toArray e))) : wpList P ops Q (o :: rest) a w := by
  subst hn
  have hr := run_litN (w := w) hE us hc h0 hs
  refine wpl_run hw (w' := w.alloc (.cells (us.flatMap (fun u => u.cells.toList)).toArray e)) ?_ hK
  rw [← hx] at hr
  simp [execOp, ho, hr, Result.andThen]
end
end Go.Proofs.Ythfbfdkjgkkpcaa
