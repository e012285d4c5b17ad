/-
  make([]table.Change, n), and a store of a key into one of its elements.
-/
import Derived.Test.YthfbfdkjgkkpcaaTab
namespace Go.Proofs.Ythfbfdkjgkkpcaa
open Go Go.RowKit

/-- n changes' cells, of which the first i have the key k. -/
def mkc (n i : Nat) : List Value := (List.replicate i [encS [107], Value.bool false, Value.slice none 0 0]).flatten ++ (List.replicate (n - i) [encS [], Value.bool false, Value.slice none 0 0]).flatten
theorem mkc_set (n i : Nat) (h : i < n) : (mkc n i).set (i * 3) (encS [107]) = mkc n (i + 1) := by
  obtain ⟨m, rfl⟩ : ∃ m, n = i + (m + 1) := ⟨n - i - 1, by omega⟩
  unfold mkc
  rw [show i + (m + 1) - i = m + 1 from by omega, show i + (m + 1) - (i + 1) = m from by omega]
  have hl : (List.replicate i [encS [107], Value.bool false, Value.slice none 0 0]).flatten.length = i * 3 := by simp
  rw [List.set_append_right _ _ (by omega), hl, Nat.sub_self, List.replicate_succ' (n := i), List.replicate_succ (n := m)]
  simp
theorem mkc_start (n : Nat) : (madeCells #[encS [], Value.bool false, Value.slice none 0 0] (n * 3)).toList = mkc n 0 := by
  unfold mkc madeCells
  rw [Array.toList_map, Array.toList_range]
  simp only [List.replicate_zero, List.flatten_nil, List.nil_append, Nat.sub_zero]
  induction n with
  | zero => rfl
  | succ n ih =>
    rw [show (n + 1) * 3 = n * 3 + 1 + 1 + 1 from by omega, List.range_succ, List.range_succ, List.range_succ, List.replicate_succ', List.flatten_append, ← ih]
    have h0 : n * 3 % 3 = 0 := by omega
    have h1 : (n * 3 + 1) % 3 = 1 := by omega
    have h2 : (n * 3 + 1 + 1) % 3 = 2 := by omega
    simp [h0, h1, h2]
theorem mkc_cells (w : World) : ∀ (n : Nat), TCells w (mkc n n) (List.replicate n ⟨[107], false, []⟩)
  | 0 => by simp [mkc]; trivial
  | n + 1 => by
    have h := mkc_cells w n
    unfold mkc at h ⊢
    rw [Nat.sub_self] at h ⊢
    rw [List.replicate_succ, List.replicate_succ]
    simp only [List.replicate_zero, List.flatten_nil, List.append_nil, List.flatten_cons] at h ⊢
    exact ⟨rfl, rfl, Rd.nil _ _ _, h⟩

section
variable {P : Program} {ops : Array Oper} {Q : Exit → Act → World → Prop} {a : Act} {w : World} {rest : List Oper} {o : Oper}
/-- make, for elements of any size. -/
theorem wpl_make_el {T e sz b : Nat} (hE : Elem P T e sz b) (z : Value) (hz : ∀ i, P.info? e = some i → i.zero = some z) (hw : Region.wanted o (yielded ops a.tmps) = true) {l c : Operand} (ho : o.op = .makeSlice T l c)
    {k k' : IntKind} {n : Nat} (hl : a.eval l = .int k n) (hc : a.eval c = .int k' n) (hb : b * n ≤ 281474976710656) (hm : n ≤ maxLen)
    (hK : ∀ v w', w'.ownsRow w.heap.size e sz v n (madeCells z.cells (n * sz)).toList → Upd [] w w' → wpList P ops Q rest (a.put o.dst v) w') : wpList P ops Q (o :: rest) a w := by
  obtain ⟨i, z', hi, hz', hs, hby, _⟩ := hE.info
  obtain ⟨w', hr, h1, h2⟩ := run_make_full (P := P) w w.heap.size T e i z sz hE.und hi (hz i hi) hs k k' n (by rw [hby]; exact hb) hm (Nat.le_refl _)
  refine wpl_run hw (v := .slice (some ⟨w.heap.size, 0, none⟩) n n) (w' := w') ?_ (hK _ _ h1 (Upd.grown h2 (fun _ h => by cases h)))
  simp [execOp, ho, hl, hc, hr, Result.andThen]
/-- make([]byte, n): some n bytes. -/
theorem wpl_make_zs {T : Nat} (hE : Elem P T 5 1 1) (hz : ∀ i, P.info? 5 = some i → i.zero = some (.int .u8 0)) (hw : Region.wanted o (yielded ops a.tmps) = true) {l c : Operand} (ho : o.op = .makeSlice T l c)
    {k k' : IntKind} (n : Nat) (hl : a.eval l = .int k n) (hc : a.eval c = .int k' n) (hb : n ≤ 1073741824)
    (hK : ∀ v w' zs, zs.length = n → OwnBy w' w.heap.size v zs → Upd [] w w' → wpList P ops Q rest (a.put o.dst v) w') : wpList P ops Q (o :: rest) a w :=
  wpl_make_by hE hz hw ho hl hc hb (fun v w' h hU => hK v w' _ List.length_replicate h hU)
/-- The address of an element of the call's own row, and what a store into its first cell leaves. -/
theorem wpl_indexAddr_el {T e sz b : Nat} (hE : Elem P T e sz b) (hw : Region.wanted o (yielded ops a.tmps) = true) {x ix : Operand} (ho : o.op = .indexAddr T x ix)
    {B n : Nat} {v : Value} {xs : List Value} (hown : w.ownsRow B e sz v n xs) (hx : a.eval x = v) {k : IntKind} {i : Int} (hi : a.eval ix = .int k i) (h0 : 0 ≤ i) (h1 : i < n)
    (hK : ∀ g, v.ownBlock = some g → w.cell? ⟨g, i.toNat * sz, none⟩ = xs[i.toNat * sz]? → w.frozen? ⟨g, i.toNat * sz, none⟩ = false → (∀ u, (w.setCell ⟨g, i.toNat * sz, none⟩ u).ownsRow B e sz v n (xs.set (i.toNat * sz) u) ∧ Upd v.ownBlock.toList w (w.setCell ⟨g, i.toNat * sz, none⟩ u)) → wpList P ops Q rest (a.put o.dst (.pointer (some ⟨g, i.toNat * sz, none⟩))) w) : wpList P ops Q (o :: rest) a w := by
  rcases hown.2 with ⟨rfl, h2⟩ | ⟨g, cap, cur, rfl, hBg, hg, hnc, hcm, hcs, htk⟩
  · omega
  · have hlt : i.toNat < n := by omega
    have hlt2 : i.toNat * sz < n * sz := Nat.mul_lt_mul_of_pos_right hlt hE.pos
    have hr : (Instr.indexAt T (.slice (some ⟨g, 0, none⟩) n cap) (.int k i)).run P w = .ok (.pointer (some ⟨g, i.toNat * sz, none⟩)) w := by
      have hs := sizeOf_run hE w
      simp only [Instr.indexAt, asIntOf, Sem.run_bind, Sem.run_pure, Result.andThen_ok, run_underlying hE.und]
      simp only [h0, h1, and_self, if_true, Sem.run_bind, hs, Result.andThen_ok, Sem.run_pure, Addr.add_lit, Nat.zero_add]
    refine wpl_run hw (v := .pointer (some ⟨g, i.toNat * sz, none⟩)) (w' := w) ?_ (hK g rfl ?_ ?_ ?_)
    · simp [execOp, ho, hx, hi, hr, Result.andThen]
    · rw [World.ownsRow.cellAt hown (i.toNat * sz) (by first | exact hlt2 | omega)]
    · exact World.ownsRow.frozenAt hown _
    · intro u
      exact ⟨(World.ownsRow.stored hown (i.toNat * sz) u).1, Upd.setCell _ _ _ (by simp [Value.ownBlock])⟩
end
end Go.Proofs.Ythfbfdkjgkkpcaa
